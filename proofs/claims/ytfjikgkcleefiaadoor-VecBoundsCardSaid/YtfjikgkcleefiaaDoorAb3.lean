/- An abstract calculus over the model's weakest preconditions, part 3: what allocations and stores do to the relation. -/
import Derived.Test.YtfjikgkcleefiaaDoorAb2
namespace Go.Ab

def grow (w : World) (o : Obj) : World := { w with heap := w.heap.push o }

theorem grow_old (w : World) (o : Obj) (k : Nat) (h : k < w.heap.size) : (grow w o).heap[k]? = w.heap[k]? := by
  show (w.heap.push o)[k]? = _
  rw [Array.getElem?_push, if_neg (by omega)]

theorem grow_new (w : World) (o : Obj) : (grow w o).heap[w.heap.size]? = some o := by
  show (w.heap.push o)[w.heap.size]? = _
  simp

theorem cell_of_block {w w' : World} {a : Addr} (h : w'.heap[a.block]? = w.heap[a.block]?) : w'.cell? a = w.cell? a := by simp [World.cell?, h]

theorem cell_row {w : World} {k off : Nat} {vs : Array Value} {e : TypeId} {fr : Nat × Nat} (h : w.heap[k]? = some (.cells vs e fr)) :
    w.cell? ⟨k, off, none⟩ = vs[off]? := by simp [World.cell?, h]

/-- The blocks that stand stay as they were: whatever is done beyond. -/
theorem Ext.of_grow {w w' : World} {c : Cx} (m' : List (Option Nat)) (hos : w'.os = w.os) (htape : w'.tape = w.tape) (hout : w'.output = w.output)
    (hsize : w.heap.size ≤ w'.heap.size) (hb : ∀ k, k < w.heap.size → w'.heap[k]? = w.heap[k]?)
    (ids : ∀ b k : Nat, c.m[b]? = some (some k) → m'[b]? = some (some k))
    (new : ∀ k : Nat, some k ∈ m' → some k ∈ c.m ∨ w.heap.size ≤ k) (g : ∀ i k j : Nat, c.T[i]? = some (some (k, j)) → k < w.heap.size) :
    Ext w c w' { c with m := m' } where
  os := hos
  tape := htape
  output := hout
  size := hsize
  ids := ids
  new := new
  blocks := fun k hk _ _ => hb k hk
  cells := fun k hk _ off v _ hv => by rw [cell_of_block (hb k hk)]; exact hv
  toks := fun i k j h => .inr ⟨i, j, h, Nat.le_refl _⟩
  stay := fun i k j _ h => ⟨h, hb k (g i k j h)⟩
  tlen := Nat.le_refl _
  ok := rfl

/-- A world that differs in the heap's growth alone. -/
theorem quiet_grow {w w' : World} {c : Cx} {H : List AObj} {ts : List Bool} (g : Good w c H ts) (hos : w'.os = w.os) (htape : w'.tape = w.tape)
    (hout : w'.output = w.output) (hsize : w.heap.size ≤ w'.heap.size) (hb : ∀ k, k < w.heap.size → w'.heap[k]? = w.heap[k]?) :
    Good w' c H ts ∧ Ext w c w' c := by
  have x : Ext w c w' c := Ext.of_grow c.m hos htape hout hsize hb (fun _ _ h => h) (fun _ h => .inl h) (fun i k j h => g.tlt h)
  exact ⟨g.ext x (fun b k h => hb k (ObjC.lt g h)), x⟩

theorem quiet_new {w : World} {c : Cx} {H : List AObj} {ts : List Bool} (g : Good w c H ts) (o : Obj) : Good (grow w o) c H ts ∧ Ext w c (grow w o) c :=
  quiet_grow g rfl rfl rfl (by simp [grow]) (fun k hk => grow_old w o k hk)

theorem quiet_drew {w : World} {c : Cx} {H : List AObj} {ts : List Bool} (g : Good w c H ts) (n : Nat) :
    Good { w with drawn := n } c H ts ∧ Ext w c { w with drawn := n } c :=
  quiet_grow g rfl rfl rfl (Nat.le_refl _) (fun _ _ => rfl)

/-- New blocks may be looked upon as frozen. -/
theorem Foot.new {w w' : World} {c : Cx} {H : List AObj} {ts : List Bool} (g : Good w c H ts) (hs : w.heap.size < w'.heap.size) (k off n : Nat)
    (hk : k = w.heap.size) : Foot w' c ⟨k, off, none⟩ n := by
  subst hk
  exact .inr ⟨rfl, hs, fun h => absurd (g.mlt h) (Nat.lt_irrefl _), fun i j h => absurd (g.tlt h) (Nat.lt_irrefl _), g.okn _ _ (Nat.le_refl _)⟩

/-- A new row of the abstract heap. -/
theorem alloc_row {w : World} {c : Cx} {H : List AObj} {ts : List Bool} (g : Good w c H ts) {cs : List PV} {vs : Array Value} {e : TypeId} {fr : Nat × Nat}
    (hn : vs.size = cs.length) (hf : nofz fr vs.size) (hlf : Leafs cs) (hv : VRs w c cs (fun i => vs[i]?)) :
    Good (grow w (.cells vs e fr)) { c with m := c.m ++ [some w.heap.size] } (H ++ [.row cs e]) ts ∧
      Ext w c (grow w (.cells vs e fr)) { c with m := c.m ++ [some w.heap.size] } := by
  have hids : ∀ b k : Nat, c.m[b]? = some (some k) → (c.m ++ [some w.heap.size])[b]? = some (some k) := fun b k h => by
    rw [List.getElem?_append_left (List.getElem?_eq_some_iff.1 h).1]; exact h
  have x : Ext w c (grow w (.cells vs e fr)) { c with m := c.m ++ [some w.heap.size] } := by
    refine Ext.of_grow _ rfl rfl rfl (by simp [grow]) (fun k hk => grow_old w _ k hk) hids (fun k h => ?_) (fun i k j h => g.tlt h)
    rcases List.mem_append.1 h with h | h
    · exact .inl h
    · simp at h; exact .inr (Nat.le_of_eq h.symm)
  have back : ∀ b k : Nat, (c.m ++ [some w.heap.size])[b]? = some (some k) → c.m[b]? = some (some k) ∨ (b = c.m.length ∧ k = w.heap.size) := fun b k h => by
    by_cases hb : b < c.m.length
    · rw [List.getElem?_append_left hb] at h; exact .inl h
    · rw [List.getElem?_append_right (Nat.le_of_not_lt hb)] at h
      have : b - c.m.length = 0 := by
        rcases Nat.eq_zero_or_pos (b - c.m.length) with e | e
        · exact e
        · rw [List.getElem?_eq_none (by simp; omega)] at h; cases h
      rw [this] at h; simp at h
      exact .inr ⟨by omega, h.symm⟩
  refine ⟨⟨by simp [g.len], ?_, ?_, g.tl, g.tal, g.tdead, ?_, g.tinj, fun k e h => g.okn k e (Nat.le_trans x.size h), g.okm, g.okt⟩, x⟩
  · intro i j k hi hj
    rcases back i k hi with hi | ⟨ei, ek⟩ <;> rcases back j k hj with hj | ⟨ej, ek'⟩
    · exact g.inj i j k hi hj
    · have := ObjC.lt g hi; omega
    · have := ObjC.lt g hj; omega
    · omega
  · intro b o h
    by_cases hb : b < H.length
    · rw [List.getElem?_append_left hb] at h
      have ho := g.obj b o h
      cases o with
      | row cs' e' =>
        obtain ⟨k, vs', fr', h1, h2, hf', h3, hl', h4⟩ := ho
        exact ⟨k, vs', fr', x.ids _ _ h1, (grow_old w _ k (ObjC.lt g h1)).trans h2, hf', h3, hl', VRs.ext x cs' (fun _ _ _ e => e) h4⟩
      | raw o =>
        obtain ⟨k, h1, h2⟩ := ho
        exact ⟨k, x.ids _ _ h1, (grow_old w _ k (ObjC.lt g h1)).trans h2⟩
      | gone =>
        show (c.m ++ [some w.heap.size])[b]? = some none
        rw [List.getElem?_append_left (by rw [g.len]; exact hb)]; exact ho
    · rw [List.getElem?_append_right (Nat.le_of_not_lt hb)] at h
      have hb0 : b - H.length = 0 := by
        rcases Nat.eq_zero_or_pos (b - H.length) with e | e
        · exact e
        · rw [List.getElem?_eq_none (by simp; omega)] at h; cases h
      rw [hb0] at h
      simp at h
      subst h
      refine ⟨w.heap.size, vs, fr, ?_, grow_new w _, hf, hn, hlf, VRs.ext x cs (fun _ _ _ e => e) hv⟩
      show (c.m ++ [some w.heap.size])[b]? = _
      rw [List.getElem?_append_right (by rw [g.len]; omega), g.len, hb0]; rfl
  · intro i k j h
    obtain ⟨h1, vs', e', fr', h2, h3⟩ := g.tok i k j h
    refine ⟨fun hm => ?_, vs', e', fr', (grow_old w _ k (g.tlt h)).trans h2, h3⟩
    rcases List.mem_append.1 hm with hm | hm
    · exact h1 hm
    · simp at hm; have := g.tlt h; omega

theorem set_block (w : World) (k off : Nat) (v : Value) {vs : Array Value} {e : TypeId} {fr : Nat × Nat} (h : w.heap[k]? = some (.cells vs e fr)) :
    (w.setCell ⟨k, off, none⟩ v).heap[k]? = some (.cells (vs.setIfInBounds off v) e fr) := by
  simp [World.setCell, Array.getElem?_modify, h]

theorem set_other (w : World) (k off k' : Nat) (v : Value) (h : k' ≠ k) : (w.setCell ⟨k, off, none⟩ v).heap[k']? = w.heap[k']? := by
  simp only [World.setCell, Array.getElem?_modify]
  rw [if_neg (by omega)]

theorem set_size (w : World) (a : Addr) (v : Value) : (w.setCell a v).heap.size = w.heap.size := by simp [World.setCell]

theorem VRs_get {w : World} {c : Cx} : ∀ {cs : List PV} {f : Nat → Option Value} {i : Nat} {p : PV}, VRs w c cs f → cs[i]? = some p → ∃ v, f i = some v ∧ VR w c p v
  | [], _, _, _, _, h => by simp at h
  | q :: cs, f, 0, p, hv, h => by
    simp only [VRs] at hv
    simp at h; subst h
    exact hv.1
  | q :: cs, f, i + 1, p, hv, h => by
    simp only [VRs] at hv
    exact VRs_get (cs := cs) (f := fun i => f (i + 1)) hv.2 (by simpa using h)

theorem VRs_mk {w : World} {c : Cx} : ∀ {cs : List PV} {f : Nat → Option Value}, (∀ i p, cs[i]? = some p → ∃ v, f i = some v ∧ VR w c p v) → VRs w c cs f
  | [], _, _ => by simp only [VRs]
  | q :: cs, f, h => by
    simp only [VRs]
    exact ⟨h 0 q rfl, VRs_mk fun i p hp => h (i + 1) p (by simpa using hp)⟩

theorem VRs_iff {w : World} {c : Cx} {cs : List PV} {f : Nat → Option Value} : VRs w c cs f ↔ ∀ i p, cs[i]? = some p → ∃ v, f i = some v ∧ VR w c p v :=
  ⟨fun h _ _ hp => VRs_get h hp, VRs_mk⟩

/-- One cell of one of the abstract heap's rows is written. -/
theorem set_row {w : World} {c : Cx} {H : List AObj} {ts : List Bool} (g : Good w c H ts) {b off : Nat} {cs : List PV} {e : TypeId} (hb : H[b]? = some (.row cs e))
    {k : Nat} (hk : c.m[b]? = some (some k)) {p : PV} {v : Value} (hp : leaf p = true) (hv : VR w c p v) :
    Good (w.setCell ⟨k, off, none⟩ v) c (H.set b (.row (cs.set off p) e)) ts ∧ Ext w c (w.setCell ⟨k, off, none⟩ v) c := by
  obtain ⟨k', vs, fr, h1, h2, hf, h3, hl, h4⟩ := g.obj b _ hb
  rw [hk] at h1; cases h1
  have hmem : some k ∈ c.m := List.mem_iff_getElem?.2 ⟨b, hk⟩
  have x : Ext w c (w.setCell ⟨k, off, none⟩ v) c :=
    { os := rfl, tape := rfl, output := rfl, size := by rw [set_size]; exact Nat.le_refl _
      ids := fun _ _ h => h, new := fun _ h => .inl h
      blocks := fun k' _ hm _ => set_other w k off k' v (fun e => hm (e ▸ hmem))
      cells := fun k' _ hm off' v' _ hv' => by rw [cell_of_block (set_other w k off k' v (fun e => hm (e ▸ hmem)))]; exact hv'
      toks := fun i _ j h => .inr ⟨i, j, h, Nat.le_refl _⟩
      stay := fun i k' j _ h => ⟨h, set_other w k off k' v (fun e => (g.tok i k' j h).1 (e ▸ hmem))⟩
      tlen := Nat.le_refl _, ok := rfl }
  have hblt : b < H.length := (List.getElem?_eq_some_iff.1 hb).1
  refine ⟨⟨by simp [g.len], g.inj, ?_, g.tl, g.tal, g.tdead, ?_, g.tinj, fun k e h => g.okn k e (Nat.le_trans x.size h), g.okm, g.okt⟩, x⟩
  · intro b' o h
    by_cases hbb : b = b'
    · subst hbb
      rw [List.getElem?_set_self hblt] at h
      cases h
      refine ⟨k, _, fr, hk, set_block w k off v h2, by simpa using hf, by simp [h3], fun q hq => (List.mem_or_eq_of_mem_set hq).elim (hl q) (fun e => e ▸ hp), VRs_mk fun i q hq => ?_⟩
      by_cases hi : off = i
      · subst hi
        have hlt : off < cs.length := by
          have := (List.getElem?_eq_some_iff.1 hq).1; simpa using this
        rw [List.getElem?_set_self hlt] at hq
        cases hq
        exact ⟨v, by rw [Array.getElem?_setIfInBounds_self_of_lt (by omega)], hv.ext x⟩
      · rw [List.getElem?_set_ne hi] at hq
        obtain ⟨u, hu, hr⟩ := VRs_get h4 hq
        exact ⟨u, by rw [Array.getElem?_setIfInBounds_ne hi]; exact hu, hr.ext x⟩
    · rw [List.getElem?_set_ne hbb] at h
      have ho := g.obj b' o h
      have hne : ∀ k', c.m[b']? = some (some k') → k' ≠ k := fun k' h' e => hbb (g.inj b b' k hk (e ▸ h'))
      cases o with
      | row cs' e' =>
        obtain ⟨k', vs', fr', h1', h2', hf', h3', hl', h4'⟩ := ho
        exact ⟨k', vs', fr', h1', (set_other w k off k' v (hne k' h1')).trans h2', hf', h3', hl', VRs.ext x cs' (fun _ _ _ e => e) h4'⟩
      | raw o =>
        obtain ⟨k', h1', h2'⟩ := ho
        exact ⟨k', h1', (set_other w k off k' v (hne k' h1')).trans h2'⟩
      | gone => exact ho
  · intro i k' j h
    obtain ⟨h1', vs', e', fr', h2', h3'⟩ := g.tok i k' j h
    exact ⟨h1', vs', e', fr', (set_other w k off k' v (fun e => h1' (e ▸ hmem))).trans h2', h3'⟩

/-- Some cells, one behind the other. -/
def splice (cs : List PV) (off : Nat) (ps : List PV) : List PV := cs.take off ++ ps ++ cs.drop (off + ps.length)

theorem splice_nil (cs : List PV) (off : Nat) : splice cs off [] = cs := by simp [splice]

theorem splice_cons (cs : List PV) (off : Nat) (p : PV) (ps : List PV) (h : off + (ps.length + 1) ≤ cs.length) :
    splice (cs.set off p) (off + 1) ps = splice cs off (p :: ps) := by
  unfold splice
  have h1 : (cs.set off p).take (off + 1) = cs.take off ++ [p] := by
    rw [List.take_succ_eq_append_getElem (by simp; omega)]
    rw [List.take_set_of_le (Nat.le_refl _)]
    simp
  have h2 : (cs.set off p).drop (off + 1 + ps.length) = cs.drop (off + (p :: ps).length) := by
    rw [List.drop_set_of_lt (by omega)]
    simp [Nat.add_comm, Nat.add_left_comm]
  rw [h1, h2]
  simp

theorem splice_length (cs : List PV) (off : Nat) (ps : List PV) (h : off + ps.length ≤ cs.length) : (splice cs off ps).length = cs.length := by
  simp [splice]; omega

theorem addr_add (k off i : Nat) : Addr.add ⟨k, off, none⟩ i = ⟨k, off + i, none⟩ := by
  unfold Addr.add
  split
  · rename_i h; subst h; rfl
  · rfl

theorem leaf_one {w : World} {c : Cx} {p : PV} {v : Value} (h : leaf p = true) (hv : VR w c p v) : v.oneCell' = true := by
  cases p <;> simp only [leaf] at h <;> first | (cases h; done) | skip
  · simp only [VR] at hv; obtain ⟨rfl, hv⟩ := hv
    cases v <;> first | rfl | (simp only [plain] at hv; cases hv)
  · simp only [VR] at hv; obtain ⟨k, _, rfl⟩ := hv; rfl
  · simp only [VR] at hv; obtain ⟨k, rfl, _⟩ := hv; rfl
  · simp only [VR] at hv; obtain ⟨k, _, rfl⟩ := hv; rfl
  · simp only [VR] at hv
    rcases hv with ⟨rfl, _⟩ | ⟨a, cap, rfl, _⟩ <;> rfl
  · simp only [VR] at hv; obtain ⟨k, rfl, _⟩ := hv; rfl
  · simp only [VR] at hv; obtain ⟨k, rfl, _⟩ := hv; rfl

theorem run_storeCells_row {P : Program} : ∀ (us : List Value) (ps : List PV) {w : World} {c : Cx} {H : List AObj} {ts : List Bool} {b off i k : Nat} {cs : List PV} {e : TypeId},
    Good w c H ts → H[b]? = some (.row cs e) → c.m[b]? = some (some k) → us.length = ps.length → off + i + ps.length ≤ cs.length →
    Leafs ps → VRs w c ps (fun i => us[i]?) →
    ∃ w', (storeCells ⟨k, off, none⟩ us i).run P w = .ok () w' ∧ Good w' c (H.set b (.row (splice cs (off + i) ps) e)) ts ∧ Ext w c w' c
  | [], [], w, c, H, ts, b, off, i, k, cs, e, g, hb, hk, hl, hlen, ho, hv => by
    refine ⟨w, rfl, ?_, Ext.refl _ _⟩
    rw [splice_nil]
    have : H.set b (.row cs e) = H := by
      apply List.ext_getElem?
      intro j
      by_cases hj : b = j
      · subst hj; rw [List.getElem?_set_self (List.getElem?_eq_some_iff.1 hb).1, hb]
      · rw [List.getElem?_set_ne hj]
    rw [this]; exact g
  | u :: us, p :: ps, w, c, H, ts, b, off, i, k, cs, e, g, hb, hk, hl, hlen, ho, hv => by
    simp only [VRs] at hv
    obtain ⟨⟨u', hu', hup⟩, hvs⟩ := hv
    simp at hu'; subst hu'
    simp at hl hlen
    obtain ⟨k', vs, fr, h1, h2, hf, h3, hl', h4⟩ := g.obj b _ hb
    rw [hk] at h1; cases h1
    obtain ⟨g1, x1⟩ := set_row g (off := off + i) hb hk (ho p (by simp)) hup
    have hlt : off + i < vs.size := by omega
    have hcell : w.cell? ⟨k, off + i, none⟩ = some vs[off + i] := by rw [cell_row h2]; simp [hlt]
    have hfr : w.frozen? ⟨k, off + i, none⟩ = false := by
      simp only [World.frozen?, h2]
      have := hf (off + i) hlt
      simpa using this
    obtain ⟨w', hw', g', x'⟩ := run_storeCells_row us ps (w := w.setCell ⟨k, off + i, none⟩ u) (i := i + 1) (off := off) g1
      (by rw [List.getElem?_set_self (List.getElem?_eq_some_iff.1 hb).1]) hk hl (by simp; omega) (fun q hq => ho q (by simp [hq]))
      (VRs.ext x1 ps (fun _ _ _ e => by simpa using e) hvs)
    refine ⟨w', ?_, ?_, x1.trans x'⟩
    · have hone := leaf_one (ho p (by simp)) hup
      unfold storeCells
      rw [addr_add, Sem.run_bind]
      have hst : (store ⟨k, off + i, none⟩ u : Sem Unit).run P w = .ok () (w.setCell ⟨k, off + i, none⟩ u) := by
        unfold store
        cases u <;> simp only [Value.oneCell'] at hone <;> first | (cases hone; done) | (simp only [Sem.run, hcell, hfr]; rfl)
      rw [hst]
      exact hw'
    · rw [List.set_set, ← Nat.add_assoc, splice_cons _ _ _ _ (by omega)] at g'
      exact g'
  | [], _ :: _, _, _, _, _, _, _, _, _, _, _, _, _, _, hl, _, _, _ => by simp at hl
  | _ :: _, [], _, _, _, _, _, _, _, _, _, _, _, _, _, hl, _, _, _ => by simp at hl

end Go.Ab
