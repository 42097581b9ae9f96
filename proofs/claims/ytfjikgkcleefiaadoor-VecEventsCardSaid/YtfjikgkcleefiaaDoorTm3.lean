/- The typed machine, part 3: parts of values read and written. -/
import Derived.Test.YtfjikgkcleefiaaDoorTm2
set_option linter.unusedSimpArgs false
set_option linter.unusedVariables false
namespace Go.Tm
open Go.Ab

theorem splice_splice (A q : List PV) (o n : Nat) (B : List PV) (ho : o + B.length ≤ A.length) (hn : n + q.length ≤ B.length) (hB : (A.drop o).take B.length = B) :
    splice A o (splice B n q) = splice A (o + n) q := by
  have hA : A = A.take o ++ (B ++ A.drop (o + B.length)) := by
    conv => lhs; rw [← List.take_append_drop o A]
    congr 1
    conv => lhs; rw [← List.take_append_drop B.length (A.drop o)]
    rw [hB, List.drop_drop]
  have hlo : (A.take o).length = o := by simp; omega
  have h1 : splice A (o + n) q = A.take o ++ splice (B ++ A.drop (o + B.length)) n q := by
    conv => lhs; rw [hA]
    have := splice_append (A.take o) (B ++ A.drop (o + B.length)) q n
    rw [hlo] at this; exact this
  rw [h1]
  unfold splice
  have hl : (List.take n B ++ q ++ List.drop (n + q.length) B).length = B.length := by simp; omega
  rw [hl, List.take_append_of_le_length (by omega), List.drop_append_of_le_length (by omega)]
  simp

theorem drop_take_drop {α : Type} (A : List α) (o m n k : Nat) (h : n + k ≤ m) : (((A.drop o).take m).drop n).take k = (A.drop (o + n)).take k := by
  rw [List.drop_take, List.take_take, List.drop_drop]
  congr 1
  omega

theorem cellsL_cons (t : TV) (ts : List TV) : TV.cellsL (t :: ts) = t.cells ++ TV.cellsL ts := by simp only [TV.cellsL, TV.cells]
theorem cells_st (us : Us) (x : us.T) : (TV.v (.st us) x).cells = cellUs us x := by simp only [TV.cells, TV.pv, pvU, cellsOf, cellU]
theorem cells_arr (n : Nat) (u : U) (l : List u.T) : (TV.v (.arr n u) l).cells = rowU u l := by simp only [TV.cells, TV.pv, pvU, cellsOf, cellU, rowU]
theorem cells_agg (ts : List TV) : (TV.agg ts).cells = TV.cellsL ts := by simp only [TV.cells, TV.pv, cellsOf]
theorem cells_v (u : U) (x : u.T) (h : wfU u x) : (TV.v u x).cells = cellU u x := by simp only [TV.cells, TV.pv, (cells_pvU u x h).1]
theorem off_st {us : Us} {i : Nat} {u : U} {x : us.T} (p : List Stp) (h : us.at i = some u) : (TV.v (.st us) x).lay.off (.fld i :: p) = us.off i + u.canon.off p := by
  simp only [TV.lay, U.canon, U.off, canon_at, h, Option.map_some, canon_offS]
theorem off_arr {n : Nat} {u : U} {l : List u.T} (i : Nat) (p : List Stp) : (TV.v (.arr n u) l).lay.off (.idx i :: p) = i * u.size + u.canon.off p := by
  simp only [TV.lay, U.canon, U.off, canon_size]
theorem off_agg {ts : List TV} {i : Nat} {t : TV} (p : List Stp) (h : (TV.layS ts).at i = some t.lay) : (TV.agg ts).lay.off (.fld i :: p) = (TV.layS ts).off i + t.lay.off p := by
  simp only [TV.lay, U.off, h]

theorem agg_at : ∀ {ts : List TV} {i : Nat} {t : TV}, TV.wfs ts → ts[i]? = some t →
    (TV.layS ts).at i = some t.lay ∧ ((TV.cellsL ts).drop ((TV.layS ts).off i)).take t.cells.length = t.cells ∧ (TV.layS ts).off i + t.cells.length ≤ (TV.cellsL ts).length
  | [], _, _, _, h => by simp at h
  | [s], 0, t, hw, h => by
    simp at h; subst h
    simp [TV.layS, Us.at, Us.off, TV.cellsL, TV.cells]
  | [s], i + 1, t, hw, h => by simp at h
  | s :: s2 :: ts, 0, t, hw, h => by
    simp at h; subst h
    rw [layS_cons]
    simp [Us.at, Us.off, TV.cellsL, TV.cells]
  | s :: s2 :: ts, i + 1, t, hw, h => by
    rw [layS_cons]
    simp only [TV.wfs] at hw
    obtain ⟨h1, h2, h3⟩ := agg_at (ts := s2 :: ts) (i := i) (by simp only [TV.wfs]; exact hw.2) (by simpa using h)
    have hl := cells_len s hw.1
    simp only [TV.cells] at hl
    refine ⟨by simpa only [Us.at] using h1, ?_, ?_⟩
    · rw [cellsL_cons, Us.off, ← hl]; simp only [TV.cells] at h2 ⊢; rw [List.drop_length_add_append]; exact h2
    · rw [cellsL_cons, Us.off, ← hl, List.length_append]; simp only [TV.cells] at h3 ⊢; omega

theorem agg_set : ∀ {ts : List TV} {i : Nat} {t t' : TV}, TV.wfs ts → ts[i]? = some t → t'.wf → t'.lay = t.lay →
    TV.cellsL (ts.set i t') = splice (TV.cellsL ts) ((TV.layS ts).off i) t'.cells ∧ TV.layS (ts.set i t') = TV.layS ts ∧ TV.wfs (ts.set i t')
  | [], _, _, _, _, h, _, _ => by simp at h
  | [s], 0, t, t', hw, h, hw', e => by
    simp at h; subst h
    have h1 := cells_len s (by simp only [TV.wfs] at hw; exact hw.1)
    have h2 := cells_len t' hw'
    simp only [TV.cells] at h1 h2
    refine ⟨?_, by simp [TV.layS, e], by simp [TV.wfs, hw']⟩
    simp only [List.set_cons_zero, TV.cellsL, List.append_nil, TV.layS, Us.off, TV.cells, splice, List.take_zero, List.nil_append, Nat.zero_add]
    rw [List.drop_of_length_le (by rw [h1, h2, e]; exact Nat.le_refl _)]; simp
  | [s], i + 1, t, t', hw, h, _, _ => by simp at h
  | s :: s2 :: ts, 0, t, t', hw, h, hw', e => by
    simp at h; subst h
    simp only [TV.wfs] at hw
    have h1 := cells_len s hw.1
    have h2 := cells_len t' hw'
    simp only [TV.cells] at h1 h2
    refine ⟨?_, by rw [List.set_cons_zero, layS_cons, layS_cons, e], by simp only [List.set_cons_zero, TV.wfs]; exact ⟨hw', hw.2⟩⟩
    simp only [List.set_cons_zero]
    rw [cellsL_cons, layS_cons, cellsL_cons s]
    simp only [Us.off, TV.cells, splice, List.take_zero, List.nil_append, Nat.zero_add]
    rw [List.drop_append, List.drop_of_length_le (by rw [h1, h2, e]; exact Nat.le_refl _), h2, h1, e]; simp
  | s :: s2 :: ts, i + 1, t, t', hw, h, hw', e => by
    simp only [TV.wfs] at hw
    obtain ⟨g1, g2, g3⟩ := agg_set (ts := s2 :: ts) (i := i) (by simp only [TV.wfs]; exact hw.2) (by simpa using h) hw' e
    have hl := cells_len s hw.1
    simp only [TV.cells] at hl
    simp only [List.set_cons_succ] at g1 g2 g3 ⊢
    have hne : ∃ a l, (s2 :: ts).set i t' = a :: l := by
      cases i with
      | zero => exact ⟨_, _, rfl⟩
      | succ i => exact ⟨_, _, rfl⟩
    obtain ⟨a, l, hal⟩ := hne
    refine ⟨?_, ?_, by simp only [TV.wfs]; exact ⟨hw.1, g3⟩⟩
    · rw [cellsL_cons, g1, layS_cons, Us.off, cellsL_cons s, ← hl]; exact (splice_append _ _ _ _).symm
    · rw [hal, layS_cons, ← hal, g2, layS_cons]

/-! ### reading -/
def getT {R : Type} : TV → List Stp → (TV → Option R) → Option R
  | t, [], k => k t
  | .v (.st us) x, .fld i :: p, k => match us.prj x i with
    | some ⟨u, y⟩ => getT (.v u y) p k
    | none => none
  | .v (.arr _ u) l, .idx i :: p, k => ((show List u.T from l)[i]?).bind fun x => getT (.v u x) p k
  | .agg ts, .fld i :: p, k => match ts[i]? with
    | some t => getT t p k
    | none => none
  | _, _, _ => none

structure GetOK (t : TV) (p : List Stp) (t' : TV) : Prop where
  wf : t'.wf
  cells : (t.cells.drop (t.lay.off p)).take t'.cells.length = t'.cells
  le : t.lay.off p + t'.cells.length ≤ t.cells.length
  at' : t.lay.at p = some t'.lay

theorem get_spec {R : Type} : ∀ (t : TV) (p : List Stp) {k : TV → Option R} {r : R}, t.wf → getT t p k = some r → ∃ t', k t' = some r ∧ GetOK t p t'
  | t, [], k, r, hw, h => ⟨t, by simpa only [getT] using h, hw, by simp [U.off], by simp [U.off], by cases t.lay <;> rfl⟩
  | .v (.st us) x, .fld i :: p, k, r, hw, h => by
    simp only [getT] at h
    split at h
    · rename_i u y hp
      simp only [TV.wf, wfU] at hw
      obtain ⟨h1, h2, h3, h4⟩ := prj_spec us x i hw hp
      obtain ⟨t', h5, h6⟩ := get_spec (.v u y) p (by simpa only [TV.wf] using h2) h
      have hl := cellU_len u y h2
      have e6 := h6.cells; have e7 := h6.le
      rw [cells_v u y h2] at e6 e7
      have hls := cellUs_len us x hw
      refine ⟨t', h5, h6.wf, ?_, ?_, ?_⟩
      · rw [cells_st, off_st p h1]
        rw [← h3, drop_take_drop _ _ _ _ _ (by rw [← hl]; exact e7)] at e6
        exact e6
      · rw [cells_st, off_st p h1]
        have : u.canon.off p + t'.cells.length ≤ u.size := by rw [← hl]; exact e7
        omega
      · simp only [TV.lay, U.canon, U.at, canon_at, h1, Option.map_some]; exact h6.at'
    · cases h
  | .v (.arr n u) l, .idx i :: p, k, r, hw, h => by
    simp only [getT] at h
    rw [Option.bind_eq_some_iff] at h
    obtain ⟨x, hx, h⟩ := h
    simp only [TV.wf, wfU] at hw
    have hwx := hw.2 x (List.mem_of_getElem? hx)
    obtain ⟨h3, h4⟩ := row_split hw.2 hx
    obtain ⟨t', h5, h6⟩ := get_spec (.v u x) p (by simpa only [TV.wf] using hwx) h
    have hl := cellU_len u x hwx
    have e6 := h6.cells; have e7 := h6.le
    rw [cells_v u x hwx] at e6 e7
    refine ⟨t', h5, h6.wf, ?_, ?_, ?_⟩
    · rw [cells_arr, off_arr]
      rw [← h3, drop_take_drop _ _ _ _ _ (by rw [← hl]; exact e7)] at e6
      exact e6
    · rw [cells_arr, off_arr]
      have : u.canon.off p + t'.cells.length ≤ u.size := by rw [← hl]; exact e7
      omega
    · simp only [TV.lay, U.canon, U.at]; exact h6.at'
  | .agg ts, .fld i :: p, k, r, hw, h => by
    simp only [getT] at h
    split at h
    · rename_i t ht
      simp only [TV.wf] at hw
      obtain ⟨h1, h2, h3⟩ := agg_at hw.2.1 ht
      have hwt := wfs_iff.1 hw.2.1 t (List.mem_of_getElem? ht)
      obtain ⟨t', h5, h6⟩ := get_spec t p hwt h
      have e6 := h6.cells; have e7 := h6.le
      refine ⟨t', h5, h6.wf, ?_, ?_, ?_⟩
      · rw [cells_agg, off_agg p h1]
        rw [← h2, drop_take_drop _ _ _ _ _ e7] at e6
        exact e6
      · rw [cells_agg, off_agg p h1]; omega
      · simp only [TV.lay, U.at, h1]; exact h6.at'
    · cases h
  | .v (.int _) _, _ :: _, _, _, _, h | .v .bool _, _ :: _, _, _, _, h | .v .str _, _ :: _, _, _, _, h | .v (.sl _) _, _ :: _, _, _, _, h | .v .leaf _, _ :: _, _, _, _, h
  | .v (.st _) _, .idx _ :: _, _, _, _, h | .v (.arr _ _) _, .fld _ :: _, _, _, _, h | .agg _, .idx _ :: _, _, _, _, h
  | .ref _ _, _ :: _, _, _, _, h | .nil, _ :: _, _, _, _, h | .fsl _ _, _ :: _, _, _, _, h | .tup _, _ :: _, _, _, _, h | .ptr _ _ _, _ :: _, _, _, _, h | .os _ _ _ _ _ _, _ :: _, _, _, _, h
  | .fn _ _, _ :: _, _, _, _, h | .nilp, _ :: _, _, _, _, h | .nilf, _ :: _, _, _, _, h | .nili, _ :: _, _, _, _, h | .nilm, _ :: _, _, _, _, h | .ifc _ _, _ :: _, _, _, _, h | .dead, _ :: _, _, _, _, h => by
    simp [getT] at h

/-! ### writing -/
def setT {R : Type} : TV → List Stp → TV → (TV → Option R) → Option R
  | t, [], new, k => bif new.stores && new.lay.beq t.lay then k new else none
  | .v (.st us) x, .fld i :: p, new, k => match us.prj x i with
    | some ⟨u, y⟩ => setT (.v u y) p new fun t' => sealK t' u fun z => us.updK x i u z fun x' => k (.v (.st us) x')
    | none => none
  | .v (.arr n u) l, .idx i :: p, new, k => ((show List u.T from l)[i]?).bind fun x => setT (.v u x) p new fun t' => sealK t' u fun z => k (.v (.arr n u) ((show List u.T from l).set i z))
  | .agg ts, .fld i :: p, new, k => match ts[i]? with
    | some t => setT t p new fun t' => k (.agg (ts.set i t'))
    | none => none
  | _, _, _, _ => none

/-- new cells: what they are is of them -/
structure SetOK (t : TV) (p : List Stp) (new t' : TV) : Prop where
  wf : t'.wf
  stores : t'.stores = true
  cells : CLe (splice t.cells (t.lay.off p) new.cells) t'.cells
  le : t.lay.off p + new.cells.length ≤ t.cells.length
  lay : t'.lay = t.lay

theorem CLe.trans {a b c : List PV} (h : CLe a b) (g : CLe b c) : CLe a c :=
  ⟨h.1.trans g.1, fun i p q hp hq => by
    have hi : i < b.length := by rw [← h.1]; exact (List.getElem?_eq_some_iff.1 hp).1
    exact PLe.trans (h.2 i p _ hp (List.getElem?_eq_getElem hi)) (g.2 i _ q (List.getElem?_eq_getElem hi) hq)⟩

theorem CLe.splice {a b q : List PV} (o : Nat) (h : CLe a b) (ho : o + a.length ≤ q.length) : CLe (Ab.splice q o a) (Ab.splice q o b) := by
  have hb : o + b.length ≤ q.length := by rw [← h.1]; exact ho
  refine ⟨by rw [splice_length _ _ _ ho, splice_length _ _ _ hb], fun i p r hp hr => ?_⟩
  rw [splice_get _ _ _ _ ho] at hp
  rw [splice_get _ _ _ _ hb, ← h.1] at hr
  split at hp
  · rename_i hi; rw [if_pos hi] at hr; exact h.2 _ p r hp hr
  · rename_i hi; rw [if_neg hi, hp] at hr; cases hr; exact PLe.refl _

theorem lay_of_seal {R : Type} {t : TV} {u : U} {k : u.T → Option R} {r : R} (hw : t.wf) (h : sealK t u k = some r) : ∃ x, k x = some r ∧ wfU u x ∧ CLe t.cells (cellU u x) :=
  let ⟨x, h1, h2, _, h3⟩ := seal_spec t u hw h
  ⟨x, h1, h2, h3⟩

theorem set_spec {R : Type} : ∀ (t : TV) (p : List Stp) {new : TV} {k : TV → Option R} {r : R}, t.wf → t.stores = true → new.wf → setT t p new k = some r → ∃ t', k t' = some r ∧ SetOK t p new t'
  | t, [], new, k, r, hw, hs, hn, h => by
    simp only [setT] at h
    cases hc : new.stores && new.lay.beq t.lay with
    | false => rw [hc] at h; cases h
    | true =>
      rw [hc] at h
      simp only [Bool.and_eq_true] at hc
      have e := U.beq_eq hc.2
      have h1 := cells_len t hw
      have h2 := cells_len new hn
      refine ⟨new, h, hn, hc.1, ?_, by simp only [U.off]; rw [h1, h2, e]; omega, e⟩
      simp only [U.off, splice, List.take_zero, List.nil_append, Nat.zero_add]
      rw [List.drop_of_length_le (by rw [h1, h2, e]; exact Nat.le_refl _), List.append_nil]
      exact CLe.refl _
  | .v (.st us) x, .fld i :: p, new, k, r, hw, hs, hn, h => by
    simp only [setT] at h
    split at h
    · rename_i u y hp
      simp only [TV.wf, wfU] at hw
      obtain ⟨h1, h2, h3, h4⟩ := prj_spec us x i hw hp
      have hsy : (TV.v u y).stores = true := rfl
      obtain ⟨t', h5, h6⟩ := set_spec (.v u y) p (by simpa only [TV.wf] using h2) hsy hn h
      obtain ⟨z, h7, h8, h9⟩ := lay_of_seal h6.wf h5
      obtain ⟨x', g1, g2, g3, g4⟩ := updK_spec us x i hw h8 h7
      have hl := cellU_len u y h2
      have hls := cellUs_len us x hw
      have e6 := h6.cells; have e7 := h6.le
      rw [cells_v u y h2] at e6 e7
      change CLe (splice (cellU u y) (u.canon.off p) new.cells) t'.cells at e6
      change u.canon.off p + new.cells.length ≤ _ at e7
      refine ⟨_, g1, by simpa only [TV.wf, wfU] using g3, rfl, ?_, ?_, rfl⟩
      · rw [cells_st, cells_st, off_st p h1, g4]
        have key : CLe (splice (cellUs us x) (us.off i) (splice (cellU u y) (u.canon.off p) new.cells)) (splice (cellUs us x) (us.off i) (cellU u z)) :=
          CLe.splice _ (e6.trans h9) (by rw [splice_length _ _ _ e7, hl]; omega)
        rw [splice_splice _ _ _ _ _ (by rw [hl]; omega) e7 (by rw [hl]; exact h3)] at key
        exact key
      · rw [cells_st, off_st p h1]
        have : u.canon.off p + new.cells.length ≤ u.size := by rw [← hl]; exact e7
        omega
    · cases h
  | .v (.arr n u) l, .idx i :: p, new, k, r, hw, hs, hn, h => by
    simp only [setT] at h
    rw [Option.bind_eq_some_iff] at h
    obtain ⟨x, hx, h⟩ := h
    simp only [TV.wf, wfU] at hw
    have hwx := hw.2 x (List.mem_of_getElem? hx)
    obtain ⟨h3, h4⟩ := row_split hw.2 hx
    have hsy : (TV.v u x).stores = true := rfl
    obtain ⟨t', h5, h6⟩ := set_spec (.v u x) p (by simpa only [TV.wf] using hwx) hsy hn h
    obtain ⟨z, h7, h8, h9⟩ := lay_of_seal h6.wf h5
    have hl := cellU_len u x hwx
    have hil : i < List.length l := (List.getElem?_eq_some_iff.1 hx).1
    have e6 := h6.cells; have e7 := h6.le
    rw [cells_v u x hwx] at e6 e7
    change CLe (splice (cellU u x) (u.canon.off p) new.cells) t'.cells at e6
    change u.canon.off p + new.cells.length ≤ _ at e7
    have hset := row_set hw.2 h8 hil
    refine ⟨_, h7, ?_, rfl, ?_, ?_, rfl⟩
    · simp only [TV.wf, wfU]
      refine ⟨by rw [List.length_set]; exact hw.1, fun y hy => ?_⟩
      rcases List.mem_or_eq_of_mem_set hy with hy | hy
      · exact hw.2 y hy
      · rw [hy]; exact h8
    · rw [cells_arr, cells_arr, off_arr, hset]
      have key : CLe (splice (rowU u l) (i * u.size) (splice (cellU u x) (u.canon.off p) new.cells)) (splice (rowU u l) (i * u.size) (cellU u z)) :=
        CLe.splice _ (e6.trans h9) (by rw [splice_length _ _ _ e7, hl]; exact h4)
      rw [splice_splice _ _ _ _ _ (by rw [hl]; exact h4) e7 (by rw [hl]; exact h3)] at key
      exact key
    · rw [cells_arr, off_arr]
      have : u.canon.off p + new.cells.length ≤ u.size := by rw [← hl]; exact e7
      omega
  | .agg ts, .fld i :: p, new, k, r, hw, hs, hn, h => by
    simp only [setT] at h
    split at h
    · rename_i t ht
      simp only [TV.wf] at hw
      obtain ⟨h1, h2, h3⟩ := agg_at hw.2.1 ht
      have hwt := wfs_iff.1 hw.2.1 t (List.mem_of_getElem? ht)
      have hst : t.stores = true := by
        have hl := hw.2.2
        cases t <;> first | rfl | skip
        all_goals
          exfalso
          have : ∀ q, q ∈ (TV.cellsL ts).drop ((TV.layS ts).off i) → leaf q = true := fun q hq => hl q (List.mem_of_mem_drop hq)
          simp only [TV.cells, TV.pv, cellsOf] at h2 h3
          have hmem := List.mem_of_mem_take (h2 ▸ List.mem_singleton.2 rfl)
          have := this _ hmem
          simp [leaf] at this
      obtain ⟨t', h5, h6⟩ := set_spec t p hwt hst hn h
      obtain ⟨g1, g2, g3⟩ := agg_set hw.2.1 ht h6.wf h6.lay
      have e6 := h6.cells; have e7 := h6.le
      refine ⟨_, h5, ?_, rfl, ?_, ?_, ?_⟩
      · simp only [TV.wf]
        refine ⟨by simp; exact hw.1, g3, ?_⟩
        rw [g1]
        intro q hq
        simp only [splice, List.mem_append] at hq
        rcases hq with (hq | hq) | hq
        · exact hw.2.2 q (List.mem_of_mem_take hq)
        · exact leafs_cells h6.wf h6.stores q hq
        · exact hw.2.2 q (List.mem_of_mem_drop hq)
      · rw [cells_agg, cells_agg, off_agg p h1, g1]
        have key : CLe (splice (TV.cellsL ts) ((TV.layS ts).off i) (splice t.cells (t.lay.off p) new.cells)) (splice (TV.cellsL ts) ((TV.layS ts).off i) t'.cells) :=
          CLe.splice _ e6 (by rw [splice_length _ _ _ e7]; exact h3)
        rw [splice_splice _ _ _ _ _ h3 e7 h2] at key
        exact key
      · rw [cells_agg, off_agg p h1]; omega
      · simp only [TV.lay, g2]
    · cases h
  | .v (.int _) _, _ :: _, _, _, _, _, _, _, h | .v .bool _, _ :: _, _, _, _, _, _, _, h | .v .str _, _ :: _, _, _, _, _, _, _, h | .v (.sl _) _, _ :: _, _, _, _, _, _, _, h | .v .leaf _, _ :: _, _, _, _, _, _, _, h
  | .v (.st _) _, .idx _ :: _, _, _, _, _, _, _, h | .v (.arr _ _) _, .fld _ :: _, _, _, _, _, _, _, h | .agg _, .idx _ :: _, _, _, _, _, _, _, h
  | .ref _ _, _ :: _, _, _, _, _, _, _, h | .nil, _ :: _, _, _, _, _, _, _, h | .fsl _ _, _ :: _, _, _, _, _, _, _, h | .tup _, _ :: _, _, _, _, _, _, _, h | .ptr _ _ _, _ :: _, _, _, _, _, _, _, h
  | .os _ _ _ _ _ _, _ :: _, _, _, _, _, _, _, h
  | .fn _ _, _ :: _, _, _, _, _, _, _, h | .nilp, _ :: _, _, _, _, _, _, _, h | .nilf, _ :: _, _, _, _, _, _, _, h | .nili, _ :: _, _, _, _, _, _, _, h | .nilm, _ :: _, _, _, _, _, _, _, h
  | .ifc _ _, _ :: _, _, _, _, _, _, _, h | .dead, _ :: _, _, _, _, _, _, _, h => by
    simp [setT] at h

end Go.Tm
