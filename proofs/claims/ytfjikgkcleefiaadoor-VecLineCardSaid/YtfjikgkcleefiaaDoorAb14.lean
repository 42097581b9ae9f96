/- An abstract calculus over the model's weakest preconditions, part 14: what arguments of plain data look like, by their types. -/
import Derived.Test.YtfjikgkcleefiaaDoorAb13
namespace Go.Ab

theorem argPV_agg {H : Type} {P : Program} {t : TypeId} {d : DataW H} (h : tyAgg P t = some true) : argPV P t d = .agg (cellsD d) := by
  unfold argPV; rw [h]; rfl

theorem argPV_int {H : Type} {P : Program} {t : TypeId} {k : IntKind} {x : Int} (h : tyAgg P t = some false) : argPV P t (.lit (.int k x) : DataW H) = .val (.int k x) := by
  unfold argPV; rw [h]; rfl

theorem argPV_bool {H : Type} {P : Program} {t : TypeId} {b : Bool} (h : tyAgg P t = some false) : argPV P t (.lit (.bool b) : DataW H) = .val (.bool b) := by
  unfold argPV; rw [h]; rfl

theorem argPV_str {H : Type} {P : Program} {t : TypeId} {l : List UInt8} (h : tyAgg P t = some false) : argPV P t (.lit (.string l) : DataW H) = .val (.string ⟨l.toArray⟩) := by
  unfold argPV; rw [h]; rfl

theorem fits_bool {H : Type} {P : Program} {n : Nat} {t : TypeId} {d : DataW H} (hu : P.underlying t = some .bool) (h : Fits P n t d) : ∃ b, d = .lit (.bool b) := by
  cases n with
  | zero => cases h
  | succ n => simpa only [Fits, hu] using h

theorem fits_int {H : Type} {P : Program} {n : Nat} {t : TypeId} {k : IntKind} {d : DataW H} (hu : P.underlying t = some (.int k)) (h : Fits P n t d) : ∃ x, d = .lit (.int k x) ∧ (Lit.int k x).wf = true := by
  cases n with
  | zero => cases h
  | succ n => simpa only [Fits, hu] using h

theorem fits_str {H : Type} {P : Program} {n : Nat} {t : TypeId} {d : DataW H} (hu : P.underlying t = some .string) (h : Fits P n t d) : ∃ l, d = .lit (.string l) ∧ l.length ≤ maxLen := by
  cases n with
  | zero => cases h
  | succ n => simpa only [Fits, hu] using h

theorem fits_arr {H : Type} {P : Program} {n : Nat} {t e : TypeId} {k : Nat} {d : DataW H} (hu : P.underlying t = some (.array k e)) (h : Fits P n t d) :
    ∃ m xs, n = m + 1 ∧ d = .agg xs ∧ xs.length = k ∧ ∀ x, x ∈ xs → Fits P m e x := by
  cases n with
  | zero => cases h
  | succ n =>
    simp only [Fits, hu] at h
    obtain ⟨xs, h1, h2, h3⟩ := h
    exact ⟨n, xs, rfl, h1, h2, h3⟩

theorem fits_slice {H : Type} {P : Program} {n : Nat} {t e : TypeId} {d : DataW H} (hu : P.underlying t = some (.slice e)) (h : Fits P n t d) :
    ∃ m, n = m + 1 ∧ (d = .nil ∨ ∃ es sp, d = .slice es sp ∧ ∀ x, x ∈ es → Fits P m e x) := by
  cases n with
  | zero => cases h
  | succ n =>
    simp only [Fits, hu] at h
    exact ⟨n, rfl, h⟩

theorem fits_struct {H : Type} {P : Program} {n : Nat} {t : TypeId} {fs : Array Field} {d : DataW H} (hu : P.underlying t = some (.struct fs)) (h : Fits P n t d) :
    ∃ m xs, n = m + 1 ∧ d = .agg xs ∧ xs.length = fs.size ∧ ∀ (i : Nat) f x, fs[i]? = some f → xs[i]? = some x → Fits P m f.type x := by
  cases n with
  | zero => cases h
  | succ n =>
    simp only [Fits, hu] at h
    obtain ⟨xs, h1, h2, h3⟩ := h
    exact ⟨n, xs, rfl, h1, h2, h3⟩

theorem cellsDs_flat {H : Type} : ∀ {l : List (DataW H)}, cellsDs l = l.flatMap cellsD
  | [] => by simp [cellsDs]
  | d :: l => by simp [cellsDs, cellsDs_flat (l := l)]

/-- an array of whole numbers -/
theorem fits_ints {H : Type} {P : Program} {n : Nat} {t e : TypeId} {k : Nat} {kd : IntKind} {d : DataW H} (hu : P.underlying t = some (.array k e)) (he : P.underlying e = some (.int kd)) (h : Fits P n t d) :
    ∃ zs : List Int, zs.length = k ∧ cellsD d = zs.map (fun z => .val (.int kd z)) ∧ ∀ z, z ∈ zs → (Lit.int kd z).wf = true := by
  obtain ⟨m, xs, _, rfl, hl, hx⟩ := fits_arr hu h
  subst hl
  clear hu h
  induction xs with
  | nil => exact ⟨[], rfl, by simp [cellsD, cellsDs], by simp⟩
  | cons x xs ih =>
    obtain ⟨z, rfl, hz⟩ := fits_int he (hx x (by simp))
    obtain ⟨zs, h1, h2, h3⟩ := ih (fun y hy => hx y (by simp [hy]))
    refine ⟨z :: zs, by simp [h1], ?_, ?_⟩
    · simp only [cellsD] at h2
      simp [cellsD, cellsDs, h2]
    · intro y hy
      rcases List.mem_cons.1 hy with rfl | hy
      · exact hz
      · exact h3 y hy

/-- an array of truths -/
theorem fits_bools {H : Type} {P : Program} {n : Nat} {t e : TypeId} {k : Nat} {d : DataW H} (hu : P.underlying t = some (.array k e)) (he : P.underlying e = some .bool) (h : Fits P n t d) :
    ∃ zs : List Bool, zs.length = k ∧ cellsD d = zs.map (fun z => .val (.bool z)) := by
  obtain ⟨m, xs, _, rfl, hl, hx⟩ := fits_arr hu h
  subst hl
  clear hu h
  induction xs with
  | nil => exact ⟨[], rfl, by simp [cellsD, cellsDs]⟩
  | cons x xs ih =>
    obtain ⟨z, rfl⟩ := fits_bool he (hx x (by simp))
    obtain ⟨zs, h1, h2⟩ := ih (fun y hy => hx y (by simp [hy]))
    refine ⟨z :: zs, by simp [h1], ?_⟩
    simp only [cellsD] at h2
    simp [cellsD, cellsDs, h2]

theorem list_four {α : Type} {l : List α} (h : l.length = 4) : ∃ a b c d, l = [a, b, c, d] := by
  match l, h with
  | [a, b, c, d], _ => exact ⟨a, b, c, d, rfl⟩

end Go.Ab
