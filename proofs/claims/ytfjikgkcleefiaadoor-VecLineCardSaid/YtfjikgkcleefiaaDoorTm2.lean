/- The typed machine, part 2: typed values, objects, and the ways into them. -/
import Derived.Test.YtfjikgkcleefiaaDoorTm1
set_option linter.unusedSimpArgs false
set_option linter.unusedVariables false
namespace Go.Tm
open Go.Ab

mutual
/-- The lay-out alone: whatever fills one cell is a leaf. -/
def U.canon : U → U
  | .arr n u => .arr n u.canon
  | .st us => .st us.canon
  | _ => .leaf
def Us.canon : Us → Us
  | .one u => .one u.canon
  | .cons u us => .cons u.canon us.canon
end

mutual
theorem canon_size : ∀ u : U, u.canon.size = u.size
  | .arr n u => by simp only [U.canon, U.size, canon_size u]
  | .st us => by simp only [U.canon, U.size, canonS_size us]
  | .int _ | .bool | .str | .sl _ | .leaf => rfl
theorem canonS_size : ∀ us : Us, us.canon.size = us.size
  | .one u => by simp only [Us.canon, Us.size, canon_size u]
  | .cons u us => by simp only [Us.canon, Us.size, canon_size u, canonS_size us]
end

theorem canon_at : ∀ (us : Us) (i : Nat), us.canon.at i = (us.at i).map U.canon
  | .one _, 0 => rfl
  | .one _, _ + 1 => rfl
  | .cons _ _, 0 => rfl
  | .cons _ us, i + 1 => by simp only [Us.canon, Us.at, canon_at us i]

theorem canon_offS : ∀ (us : Us) (i : Nat), us.canon.off i = us.off i
  | .one _, _ => rfl
  | .cons _ _, 0 => rfl
  | .cons u us, i + 1 => by simp only [Us.canon, Us.off, canon_size, canon_offS us i]

/-- The code at the root of an object: a variable's, or a row's. -/
inductive Rt where
  | one (u : U)
  | row (u : U)

def Rt.off : Rt → List Stp → Nat
  | .one u, p => u.off p
  | .row u, .idx i :: p => i * u.size + u.off p
  | .row _, _ => 0

def Rt.beq : Rt → Rt → Bool
  | .one u, .one v => u.beq v
  | .row u, .row v => u.beq v
  | _, _ => false

theorem Rt.beq_eq : ∀ {r s : Rt}, r.beq s = true → r = s
  | .one u, .one v, h => by have : u.beq v = true := h; rw [U.beq_eq this]
  | .row u, .row v, h => by have : u.beq v = true := h; rw [U.beq_eq this]
  | .one _, .row _, h => by cases h
  | .row _, .one _, h => by cases h

inductive TV : Type where
  /-- typed data -/
  | v (u : U) (x : u.T)
  /-- a pointer to data that nobody writes -/
  | ref (u : U) (x : u.T)
  /-- no slice, or an empty one without room -/
  | nil
  /-- a slice without room behind its end, that nobody writes -/
  | fsl (u : U) (l : List u.T)
  /-- a struct -/
  | agg (ts : List TV)
  | tup (ts : List TV)
  /-- a pointer into an object of its own -/
  | ptr (b : Nat) (r : Rt) (p : List Stp)
  /-- a slice of an object of its own: so many elements from one on -/
  | os (b : Nat) (r : Rt) (p : List Stp) (u : U) (lo len : Nat)
  | fn (f : FuncId) (caps : List TV)
  | nilp
  | nilf
  | nili
  | nilm
  | ifc (t : TypeId) (x : TV)
  | dead

mutual
def TV.pv : TV → PV
  | .v u x => pvU u x
  | .ref u x => .fz (cellU u x)
  | .nil => .tr 0 [] .full
  | .fsl u l => .tr (List.length l) (rowU u l) .full
  | .agg ts => .agg (TV.cellsL ts)
  | .tup ts => .tup (TV.pvs ts)
  | .ptr b r p => .ptr b (r.off p)
  | .os _ _ _ _ _ _ => .dead
  | .fn f caps => .fn f (TV.pvs caps)
  | .nilp => .val (.pointer none)
  | .nilf => .val .nilFunc
  | .nili => .val .nilIface
  | .nilm => .val (.map none)
  | .ifc t x => .ifc t x.pv
  | .dead => .dead
def TV.cellsL : List TV → List PV
  | [] => []
  | t :: ts => cellsOf t.pv ++ TV.cellsL ts
def TV.pvs : List TV → List PV
  | [] => []
  | t :: ts => t.pv :: TV.pvs ts
end

def TV.cells (t : TV) : List PV := cellsOf t.pv

mutual
def TV.wf : TV → Prop
  | .v u x => wfU u x
  | .ref u x => wfU u x
  | .fsl u l => ∀ x, x ∈ l → wfU u x
  | .agg ts => ts ≠ [] ∧ TV.wfs ts ∧ Leafs (TV.cellsL ts)
  | .tup ts => TV.wfs ts
  | .fn _ caps => TV.wfs caps
  | .ifc _ x => x.wf
  | _ => True
def TV.wfs : List TV → Prop
  | [] => True
  | t :: ts => t.wf ∧ TV.wfs ts
end

mutual
def TV.lay : TV → U
  | .v u _ => u.canon
  | .agg ts => .st (TV.layS ts)
  | _ => .leaf
def TV.layS : List TV → Us
  | [] => .one .leaf
  | [t] => .one t.lay
  | t :: ts => .cons t.lay (TV.layS ts)
end

theorem layS_cons (t s : TV) (ts : List TV) : TV.layS (t :: s :: ts) = .cons t.lay (TV.layS (s :: ts)) := by simp only [TV.layS]

theorem pvs_map : ∀ ts : List TV, TV.pvs ts = ts.map TV.pv
  | [] => rfl
  | t :: ts => by simp only [TV.pvs, List.map_cons, pvs_map ts]

theorem wfs_iff : ∀ {ts : List TV}, TV.wfs ts ↔ ∀ t, t ∈ ts → t.wf
  | [] => by simp [TV.wfs]
  | t :: ts => by simp only [TV.wfs, wfs_iff (ts := ts)]; simp

mutual
theorem cells_len : ∀ t : TV, t.wf → t.cells.length = t.lay.size
  | .v u x, h => by
    simp only [TV.wf] at h
    simp only [TV.cells, TV.pv, TV.lay, (cells_pvU u x h).1, canon_size, cellU_len u x h]
  | .agg ts, h => by
    simp only [TV.wf] at h
    simp only [TV.cells, TV.pv, cellsOf, TV.lay, U.size]
    exact cellsL_len ts h.1 h.2.1
  | .ref _ _, _ | .nil, _ | .fsl _ _, _ | .tup _, _ | .ptr _ _ _, _ | .os _ _ _ _ _ _, _ | .fn _ _, _ | .nilp, _ | .nilf, _ | .nili, _ | .nilm, _ | .ifc _ _, _ | .dead, _ => rfl
theorem cellsL_len : ∀ ts : List TV, ts ≠ [] → TV.wfs ts → (TV.cellsL ts).length = (TV.layS ts).size
  | [], h, _ => absurd rfl h
  | [t], _, h => by
    simp only [TV.wfs] at h
    have := cells_len t h.1
    simp only [TV.cells] at this
    simp only [TV.cellsL, TV.layS, Us.size, List.append_nil, this]
  | t :: s :: ts, _, h => by
    rw [layS_cons]
    simp only [TV.wfs] at h
    have h1 := cells_len t h.1
    have h2 := cellsL_len (s :: ts) (by simp) (by simp only [TV.wfs]; exact h.2)
    simp only [TV.cells] at h1
    rw [TV.cellsL, List.length_append, h1, h2, Us.size]
end

/-- what can be stored -/
def TV.stores : TV → Bool
  | .tup _ | .dead | .os _ _ _ _ _ _ => false
  | _ => true

theorem stor_of : ∀ {t : TV}, t.wf → t.stores = true → stor t.pv = true
  | .v u x, h, _ => (cells_pvU u x (by simpa only [TV.wf] using h)).2
  | .agg _, _, _ | .ref _ _, _, _ | .nil, _, _ | .fsl _ _, _, _ | .ptr _ _ _, _, _ | .fn _ _, _, _ | .nilp, _, _ | .nilf, _, _ | .nili, _, _ | .nilm, _, _ | .ifc _ _, _, _ => rfl
  | .tup _, _, h | .dead, _, h | .os _ _ _ _ _ _, _, h => by cases h

theorem leafs_cells : ∀ {t : TV}, t.wf → t.stores = true → Leafs t.cells
  | .v u x, h, _ => by
    simp only [TV.wf] at h
    simp only [TV.cells, TV.pv, (cells_pvU u x h).1]
    exact leafs_cellU u x h
  | .agg ts, h, _ => by simp only [TV.wf] at h; exact h.2.2
  | .ref _ _, _, _ | .nil, _, _ | .fsl _ _, _, _ | .ptr _ _ _, _, _ | .fn _ _, _, _ | .nilp, _, _ | .nilf, _, _ | .nili, _, _ | .nilm, _, _ | .ifc _ _, _, _ => by
    intro p hp; simp only [TV.cells, TV.pv, cellsOf, List.mem_singleton] at hp; subst hp; rfl
  | .tup _, _, h | .dead, _, h | .os _ _ _ _ _ _, _, h => by cases h

/-! ### a value, looked upon as typed data -/
mutual
def sealK {R : Type} : TV → (u : U) → (u.T → Option R) → Option R
  | .v u' x, u, k => castK u' u x k
  | .nil, .sl _, k => k []
  | .fsl u' l, .sl u, k => castK (.sl u') (.sl u) l k
  | .agg ts, .st us, k => sealS ts us k
  | _, _, _ => none
def sealS {R : Type} : List TV → (us : Us) → (us.T → Option R) → Option R
  | [t], .one u, k => sealK t u k
  | t :: ts, .cons u us, k => sealK t u fun x => sealS ts us fun y => k (x, y)
  | _, _, _ => none
end

/-- what is of the one is of the other -/
def Gd (w : World) (c : Cx) : Prop := ∃ H ts, Ab.Good w c H ts
def PLe (p q : PV) : Prop := ∀ w c v, Gd w c → VR w c p v → VR w c q v
def CLe (ps qs : List PV) : Prop := ps.length = qs.length ∧ ∀ (i : Nat) p q, ps[i]? = some p → qs[i]? = some q → PLe p q

theorem PLe.refl (p : PV) : PLe p p := fun _ _ _ _ h => h
theorem PLe.trans {p q r : PV} (h : PLe p q) (g : PLe q r) : PLe p r := fun w c v hg hv => g w c v hg (h w c v hg hv)
theorem CLe.refl (ps : List PV) : CLe ps ps := ⟨rfl, fun i p q h1 h2 => by rw [h1] at h2; cases h2; exact PLe.refl _⟩
theorem CLe.append {a b c d : List PV} (h : CLe a b) (g : CLe c d) : CLe (a ++ c) (b ++ d) := by
  refine ⟨by simp [h.1, g.1], fun i p q hp hq => ?_⟩
  by_cases hi : i < a.length
  · rw [List.getElem?_append_left hi] at hp
    rw [List.getElem?_append_left (by rw [← h.1]; exact hi)] at hq
    exact h.2 i p q hp hq
  · rw [List.getElem?_append_right (by omega)] at hp
    rw [List.getElem?_append_right (by rw [← h.1]; omega), ← h.1] at hq
    exact g.2 _ p q hp hq

theorem VRs_le {w : World} {c : Cx} {ps qs : List PV} {f : Nat → Option Value} (hg : Gd w c) (h : CLe ps qs) (hv : VRs w c ps f) : VRs w c qs f :=
  VRs_mk fun i q hq => by
    have hi : i < ps.length := by rw [h.1]; exact (List.getElem?_eq_some_iff.1 hq).1
    obtain ⟨v, h1, h2⟩ := VRs_get hv (List.getElem?_eq_getElem hi)
    exact ⟨v, h1, h.2 i _ q (List.getElem?_eq_getElem hi) hq w c v hg h2⟩

theorem PLe_agg {ps qs : List PV} (h : CLe ps qs) (hl : Leafs qs) : PLe (.agg ps) (.agg qs) := by
  intro w c v hg hv
  simp only [VR] at hv ⊢
  obtain ⟨cv, h1, h2, _, h3⟩ := hv
  exact ⟨cv, h1, by rw [← h.1]; exact h2, hl, VRs_le hg h h3⟩

theorem PLe_tr {len : Nat} {cs : List PV} (t : Tail) : PLe (.tr len cs t) (.tr len cs .no) := by
  intro w c v _ h
  simp only [VR] at h ⊢
  rcases h with ⟨h3, h4, h5, _⟩ | ⟨ad, cap, h3, h4, h5, _, h6⟩
  · exact .inl ⟨h3, h4, h5, rfl⟩
  · exact .inr ⟨ad, cap, h3, h4, h5, trivial, h6⟩

theorem CLe_one {p q : PV} (h : PLe p q) : CLe [p] [q] := ⟨rfl, fun i a b h1 h2 => by
  cases i with
  | zero => simp at h1 h2; subst h1; subst h2; exact h
  | succ i => simp at h1⟩

theorem seal_v {R : Type} {u' u : U} {x : u'.T} {k : u.T → Option R} {r : R} (hw : wfU u' x) (h : castK u' u x k = some r) : ∃ y, k y = some r ∧ wfU u y ∧ pvU u' x = pvU u y := by
  obtain ⟨rfl, h⟩ := castK_some h
  exact ⟨x, h, hw, rfl⟩

mutual
theorem seal_spec {R : Type} : ∀ (t : TV) (u : U) {k : u.T → Option R} {r : R}, t.wf → sealK t u k = some r → ∃ x, k x = some r ∧ wfU u x ∧ PLe t.pv (pvU u x) ∧ CLe t.cells (cellU u x)
  | .v u' x, u, k, r, hw, h => by
    simp only [sealK] at h
    simp only [TV.wf] at hw
    obtain ⟨y, h1, h2, h3⟩ := seal_v hw h
    refine ⟨y, h1, h2, by simp only [TV.pv, h3]; exact PLe.refl _, ?_⟩
    simp only [TV.cells, TV.pv, h3, (cells_pvU u y h2).1]
    exact CLe.refl _
  | .nil, .sl u, k, r, hw, h => by
    simp only [sealK] at h
    refine ⟨[], h, by simp [wfU], ?_, ?_⟩
    · simp only [TV.pv, pvU, List.length_nil, List.flatMap_nil]; exact PLe_tr _
    · simp only [TV.cells, TV.pv, cellsOf, cellU, List.length_nil, List.flatMap_nil]; exact CLe_one (PLe_tr _)
  | .fsl u' l, .sl u, k, r, hw, h => by
    simp only [sealK] at h
    simp only [TV.wf] at hw
    obtain ⟨e, h⟩ := castK_some h
    cases e
    refine ⟨l, h, by simpa only [wfU] using hw, ?_, ?_⟩
    · simp only [TV.pv, pvU]; exact PLe_tr _
    · simp only [TV.cells, TV.pv, cellsOf, cellU]; exact CLe_one (PLe_tr _)
  | .agg ts, .st us, k, r, hw, h => by
    simp only [sealK] at h
    simp only [TV.wf] at hw
    obtain ⟨x, h1, h2, h3⟩ := sealS_spec ts us hw.2.1 h
    refine ⟨x, h1, by simpa only [wfU] using h2, ?_, ?_⟩
    · simp only [TV.pv, pvU, cellU]; exact PLe_agg h3 (leafs_cellUs us x h2)
    · simp only [TV.cells, TV.pv, cellsOf, cellU]; exact h3
  | .nil, .int _, _, _, _, h | .nil, .bool, _, _, _, h | .nil, .str, _, _, _, h | .nil, .arr _ _, _, _, _, h | .nil, .st _, _, _, _, h | .nil, .leaf, _, _, _, h => by simp [sealK] at h
  | .fsl _ _, .int _, _, _, _, h | .fsl _ _, .bool, _, _, _, h | .fsl _ _, .str, _, _, _, h | .fsl _ _, .arr _ _, _, _, _, h | .fsl _ _, .st _, _, _, _, h | .fsl _ _, .leaf, _, _, _, h => by simp [sealK] at h
  | .agg _, .int _, _, _, _, h | .agg _, .bool, _, _, _, h | .agg _, .str, _, _, _, h | .agg _, .arr _ _, _, _, _, h | .agg _, .sl _, _, _, _, h | .agg _, .leaf, _, _, _, h => by simp [sealK] at h
  | .ref _ _, _, _, _, _, h | .tup _, _, _, _, _, h | .ptr _ _ _, _, _, _, _, h | .os _ _ _ _ _ _, _, _, _, _, h | .fn _ _, _, _, _, _, h | .nilp, _, _, _, _, h | .nilf, _, _, _, _, h | .nili, _, _, _, _, h | .nilm, _, _, _, _, h
  | .ifc _ _, _, _, _, _, h | .dead, _, _, _, _, h => by simp [sealK] at h
theorem sealS_spec {R : Type} : ∀ (ts : List TV) (us : Us) {k : us.T → Option R} {r : R}, TV.wfs ts → sealS ts us k = some r → ∃ x, k x = some r ∧ wfUs us x ∧ CLe (TV.cellsL ts) (cellUs us x)
  | [t], .one u, k, r, hw, h => by
    simp only [sealS] at h
    simp only [TV.wfs] at hw
    obtain ⟨x, h1, h2, _, h3⟩ := seal_spec t u hw.1 h
    refine ⟨x, h1, by simpa only [wfUs] using h2, ?_⟩
    simp only [TV.cellsL, List.append_nil, cellUs]; exact h3
  | t :: ts, .cons u us, k, r, hw, h => by
    simp only [sealS] at h
    simp only [TV.wfs] at hw
    obtain ⟨x, h1, h2, _, h3⟩ := seal_spec t u hw.1 h
    obtain ⟨y, h4, h5, h6⟩ := sealS_spec ts us hw.2 h1
    refine ⟨(x, y), h4, by simp only [wfUs]; exact ⟨h2, h5⟩, ?_⟩
    simp only [TV.cellsL, cellUs]; exact h3.append h6
  | [], us, _, _, _, h => by cases us <;> simp [sealS] at h
  | _ :: _ :: _, .one _, _, _, _, h => by simp [sealS] at h
end

end Go.Tm
