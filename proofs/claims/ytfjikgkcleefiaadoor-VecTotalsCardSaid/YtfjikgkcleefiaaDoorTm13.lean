/- The typed machine, part 13: a law's arguments read as typed values; a law that answers true. -/
import Derived.Test.YtfjikgkcleefiaaDoorTm12
import Derived.Test.YtfjikgkcleefiaaDoorAb13
set_option linter.unusedSimpArgs false
set_option linter.unusedVariables false
namespace Go.Tm
open Go.Ab

mutual
theorem U.beq_self : ∀ u : U, u.beq u = true
  | .int k => by cases k <;> rfl
  | .bool => rfl
  | .str => rfl
  | .leaf => rfl
  | .arr n u => by simp only [U.beq, Nat.beq_refl, U.beq_self u, Bool.and_self]
  | .sl u => by simp only [U.beq, U.beq_self u]
  | .st us => by simp only [U.beq, Us.beq_self us]
theorem Us.beq_self : ∀ u : Us, u.beq u = true
  | .one u => by simp only [Us.beq, U.beq_self u]
  | .cons u us => by simp only [Us.beq, U.beq_self u, Us.beq_self us, Bool.and_self]
end

theorem castK_refl {R : Type} (u : U) (x : u.T) (k : u.T → Option R) : castK u u x k = k x := by
  unfold castK
  split
  · rfl
  · rename_i h; rw [U.beq_self] at h; cases h

mutual
/-- no string is beyond a machine's reach -/
def limU : (u : U) → u.T → Prop
  | .str, s => List.length s ≤ maxLen
  | .arr _ u, l => ∀ x, x ∈ l → limU u x
  | .sl u, l => ∀ x, x ∈ l → limU u x
  | .st us, x => limUs us x
  | _, _ => True
def limUs : (us : Us) → us.T → Prop
  | .one u, x => limU u x
  | .cons u us, x => limU u x.1 ∧ limUs us x.2
end

theorem ba_bytes (l : List UInt8) : ba (l.map fun b => (b.toNat : Int)) = ⟨l.toArray⟩ := by
  unfold ba
  congr 2
  rw [List.map_map]
  have : ((fun n : Int => UInt8.ofNat n.toNat) ∘ fun b : UInt8 => (b.toNat : Int)) = id := by
    funext b; simp
  rw [this, List.map_id]

theorem fits_list {H : Type} {P : Program} {n : Nat} {e : TypeId} {u : U} (h : ∀ d : DataW H, Fits P n e d → ∃ x : u.T, wfU u x ∧ limU u x ∧ cellsD d = cellU u x) :
    ∀ xs : List (DataW H), (∀ x, x ∈ xs → Fits P n e x) → ∃ l : List u.T, l.length = xs.length ∧ (∀ x, x ∈ l → wfU u x) ∧ (∀ x, x ∈ l → limU u x) ∧ cellsDs xs = l.flatMap fun x => cellU u x
  | [], _ => ⟨[], rfl, fun x hx => (by cases hx), fun x hx => (by cases hx), by simp [cellsDs]⟩
  | d :: xs, hf => by
    obtain ⟨x, h1, h2, h3⟩ := h d (hf d (by simp))
    obtain ⟨l, g1, g2, g3, g4⟩ := fits_list h xs fun y hy => hf y (by simp [hy])
    refine ⟨x :: l, by simp [g1], fun y hy => ?_, fun y hy => ?_, by simp [cellsDs, h3, g4]⟩
    · rcases List.mem_cons.1 hy with rfl | hy
      · exact h1
      · exact g2 y hy
    · rcases List.mem_cons.1 hy with rfl | hy
      · exact h2
      · exact g3 y hy

mutual
theorem fits_u {H : Type} {P : Program} : ∀ (u : U) (n m : Nat) (t : TypeId) (d : DataW H), Fits P n t d → agree P m t u = true → ∃ x : u.T, wfU u x ∧ limU u x ∧ cellsD d = cellU u x
  | _, 0, _, _, _, h, _ => h.elim
  | _, _ + 1, 0, _, _, _, h => by simp [agree] at h
  | .int k, n + 1, m + 1, t, d, hf, ha => by
    simp only [agree, Bool.and_eq_true] at ha
    simp only [Fits] at hf
    cases hu : P.underlying t with
    | none => rw [hu] at hf; exact hf.elim
    | some y =>
      rw [hu] at ha hf
      cases y <;> first | (cases ha.2; done) | skip
      rename_i k'
      have := kindBeq_eq ha.2
      subst this
      obtain ⟨x, rfl, hw⟩ := hf
      refine ⟨x, ?_, trivial, rfl⟩
      simpa [wfU, Lit.wf] using hw
  | .bool, n + 1, m + 1, t, d, hf, ha => by
    simp only [agree, Bool.and_eq_true] at ha
    simp only [Fits] at hf
    cases hu : P.underlying t with
    | none => rw [hu] at hf; exact hf.elim
    | some y =>
      rw [hu] at ha hf
      cases y <;> first | (cases ha.2; done) | skip
      obtain ⟨b, rfl⟩ := hf
      exact ⟨b, trivial, trivial, rfl⟩
  | .str, n + 1, m + 1, t, d, hf, ha => by
    simp only [agree, Bool.and_eq_true] at ha
    simp only [Fits] at hf
    cases hu : P.underlying t with
    | none => rw [hu] at hf; exact hf.elim
    | some y =>
      rw [hu] at ha hf
      cases y <;> first | (cases ha.2; done) | skip
      obtain ⟨l, rfl, hl⟩ := hf
      refine ⟨l.map fun b => (b.toNat : Int), ?_, ?_, ?_⟩
      · intro i hi
        simp only [List.mem_map] at hi
        obtain ⟨b, _, rfl⟩ := hi
        have := b.toNat_lt
        exact ⟨by omega, by omega⟩
      · simpa [limU] using hl
      · simp only [cellsD, cellU, ba_bytes]
  | .arr k u, n + 1, m + 1, t, d, hf, ha => by
    simp only [agree, Bool.and_eq_true] at ha
    simp only [Fits] at hf
    cases hu : P.underlying t with
    | none => rw [hu] at hf; exact hf.elim
    | some y =>
      rw [hu] at ha hf
      cases y <;> first | (cases ha.2; done) | skip
      obtain ⟨xs, rfl, hl, hx⟩ := hf
      have ha := ha.2
      simp only [Bool.and_eq_true] at ha
      have ek := Nat.eq_of_beq_eq_true ha.1
      obtain ⟨l, g1, g2, g3, g4⟩ := fits_list (fun d hd => fits_u u n m _ d hd ha.2) xs hx
      exact ⟨l, ⟨by rw [g1, hl, ek], g2⟩, g3, by simp only [cellsD, cellU, g4]⟩
  | .sl u, n + 1, m + 1, t, d, hf, ha => by
    simp only [agree, Bool.and_eq_true] at ha
    simp only [Fits] at hf
    cases hu : P.underlying t with
    | none => rw [hu] at hf; exact hf.elim
    | some y =>
      rw [hu] at ha hf
      cases y <;> first | (cases ha.2; done) | skip
      rcases hf with rfl | ⟨es, sp, rfl, hx⟩
      · exact ⟨[], fun x hx => (by cases hx), fun x hx => (by cases hx), by simp [cellsD, cellU]⟩
      · obtain ⟨l, g1, g2, g3, g4⟩ := fits_list (fun d hd => fits_u u n m _ d hd ha.2) es hx
        exact ⟨l, g2, g3, by simp only [cellsD, cellU, g4, g1]⟩
  | .st us, n + 1, m + 1, t, d, hf, ha => by
    simp only [agree, Bool.and_eq_true] at ha
    simp only [Fits] at hf
    cases hu : P.underlying t with
    | none => rw [hu] at hf; exact hf.elim
    | some y =>
      rw [hu] at ha hf
      cases y <;> first | (cases ha.2; done) | skip
      rename_i fs
      obtain ⟨xs, rfl, hl, hx⟩ := hf
      obtain ⟨x, g1, g2, g3⟩ := fits_us us n m fs.toList xs 0 (by simpa using hl.symm) (fun i f x hi hxi => hx i f x (by simpa using hi) hxi) ha.2
      exact ⟨x, g1, g2, by simp only [cellsD, cellU, g3]⟩
  | .leaf, n + 1, m + 1, t, d, hf, ha => by
    simp only [agree, Bool.and_eq_true] at ha
    cases hu : P.underlying t with
    | none => rw [hu] at ha; cases ha.2
    | some y =>
      rw [hu] at ha
      cases y <;> cases ha.2
theorem fits_us {H : Type} {P : Program} : ∀ (us : Us) (n m : Nat) (fs : List Field) (xs : List (DataW H)) (off : Nat), fs.length = xs.length →
    (∀ (i : Nat) f x, fs[i]? = some f → xs[i]? = some x → Fits P n f.type x) → fsAgree (agree P m) fs us off = true → ∃ x : us.T, wfUs us x ∧ limUs us x ∧ cellsDs xs = cellUs us x
  | .one u, n, m, fs, xs, off, hl, hx, ha => by
    match fs, xs, hl with
    | [], _, _ => simp [fsAgree] at ha
    | [f], [d], _ =>
      simp only [fsAgree, Bool.and_eq_true] at ha
      obtain ⟨x, g1, g2, g3⟩ := fits_u u n m f.type d (hx 0 f d rfl rfl) ha.2
      exact ⟨x, g1, g2, by simp [cellsDs, cellUs, g3]⟩
    | _ :: _ :: _, _, _ => simp [fsAgree] at ha
  | .cons u us, n, m, fs, xs, off, hl, hx, ha => by
    match fs, xs, hl with
    | [], _, _ => simp [fsAgree] at ha
    | [f], _, _ => simp [fsAgree] at ha
    | f :: g :: fs, d :: e :: xs, hl =>
      simp only [fsAgree, Bool.and_eq_true] at ha
      obtain ⟨x, g1, g2, g3⟩ := fits_u u n m f.type d (hx 0 f d rfl rfl) ha.1.2
      obtain ⟨y, k1, k2, k3⟩ := fits_us us n m (g :: fs) (e :: xs) _ (by simpa using hl) (fun i f x hi hxi => hx (i + 1) f x (by simpa using hi) (by simpa using hxi)) ha.2
      refine ⟨(x, y), ⟨g1, k1⟩, ⟨g2, k2⟩, ?_⟩
      rw [cellsDs, g3, k3]; rfl
end

theorem agree_agg {P : Program} {m : Nat} {t : TypeId} {u : U} (h : agree P m t u = true) : tyAgg P t = some u.isAgg := by
  cases m with
  | zero => simp [agree] at h
  | succ m =>
    simp only [agree, Bool.and_eq_true] at h
    have h := h.2
    unfold tyAgg
    cases hu : P.underlying t with
    | none => rw [hu] at h; cases h
    | some y =>
      rw [hu] at h
      cases y <;> cases u <;> first | rfl | (cases h; done)

theorem arg_pv {H : Type} {P : Program} {n m : Nat} {t : TypeId} {d : DataW H} {u : U} (hf : Fits P n t d) (ha : agree P m t u = true) : ∃ x : u.T, wfU u x ∧ limU u x ∧ argPV P t d = pvU u x := by
  obtain ⟨x, h1, h2, h3⟩ := fits_u u n m t d hf ha
  refine ⟨x, h1, h2, ?_⟩
  unfold argPV
  rw [agree_agg ha, h3]
  cases u <;> first | rfl | exact h1.elim

/-- every argument -/
def agrees (P : Program) (m : Nat) : List TypeId → List U → Bool
  | [], [] => true
  | t :: ts, u :: us => agree P m t u && agrees P m ts us
  | _, _ => false

def wfL : (l : List U) → LT l → Prop
  | [], _ => True
  | [u], x => wfU u x
  | u :: v :: r, x => wfU u x.1 ∧ wfL (v :: r) x.2

def limL : (l : List U) → LT l → Prop
  | [], _ => True
  | [u], x => limU u x
  | u :: v :: r, x => limU u x.1 ∧ limL (v :: r) x.2

theorem args_pv {H : Type} {P : Program} {n m : Nat} : ∀ (l : List U) {ts : List TypeId} {ds : List (DataW H)}, ts.length = ds.length → (∀ (j : Nat) t d, ts[j]? = some t → ds[j]? = some d → Fits P n t d) → agrees P m ts l = true →
    ∃ x : LT l, wfL l x ∧ limL l x ∧ List.zipWith (argPV P) ts ds = (splitT l x).map TV.pv ∧ (∀ a, a ∈ splitT l x → a.wf) ∧ ∀ (R : Type) (k : LT l → Option R), sealT l (splitT l x) k = k x
  | [], ts, ds, hl, hf, ha => by
    match ts, ds, hl with
    | [], [], _ => exact ⟨(), trivial, trivial, rfl, fun a h => (by cases h), fun R k => rfl⟩
    | _ :: _, _, _ => simp [agrees] at ha
  | [u], ts, ds, hl, hf, ha => by
    match ts, ds, hl with
    | [], _, _ => simp [agrees] at ha
    | [t], [d], _ =>
      simp only [agrees, Bool.and_eq_true, and_true] at ha
      obtain ⟨x, h1, h2, h3⟩ := arg_pv (hf 0 t d rfl rfl) ha
      refine ⟨x, h1, h2, by simp [splitT, h3, TV.pv], fun a h => ?_, fun R k => ?_⟩
      · simp only [splitT, List.mem_singleton] at h; subst h; simpa only [TV.wf] using h1
      · simp only [splitT, sealT, sealK, castK_refl]
    | _ :: _ :: _, _, _ => simp [agrees] at ha
  | u :: v :: r, ts, ds, hl, hf, ha => by
    match ts, ds, hl with
    | [], _, _ => simp [agrees] at ha
    | t :: ts, d :: ds, hl =>
      simp only [agrees, Bool.and_eq_true] at ha
      obtain ⟨x, h1, h2, h3⟩ := arg_pv (hf 0 t d rfl rfl) ha.1
      obtain ⟨y, g1, g2, g3, g4, g5⟩ := args_pv (v :: r) (ts := ts) (ds := ds) (by simpa using hl) (fun j t d ht hd => hf (j + 1) t d (by simpa using ht) (by simpa using hd)) ha.2
      refine ⟨(x, y), ⟨h1, g1⟩, ⟨h2, g2⟩, by simp [splitT, h3, g3, TV.pv], fun a h => ?_, fun R k => ?_⟩
      · simp only [splitT, List.mem_cons] at h
        rcases h with rfl | h
        · simpa only [TV.wf] using h1
        · exact g4 a (by simpa [splitT] using h)
      · simp only [splitT, sealT, sealK, castK_refl]
        exact g5 R fun y => k (x, y)

/-- A law that answers true whatever it is given: its call. -/
theorem law_true {H : Type} {P : Program} {f : FuncId} {n m : Nat} {l : List U} {law : LT l → Option Bool} {ts : List TypeId} {ds : List (DataW H)} (hE : EntOK P (entD f l (.one .bool) law))
    (hl : ts.length = ds.length) (hf : ∀ (j : Nat) t d, ts[j]? = some t → ds[j]? = some d → Fits P n t d) (ha : agrees P m ts l = true)
    (h : ∀ x, wfL l x → limL l x → law x = some true) : ACalls P f (List.zipWith (argPV P) ts ds) [] 0 (fun p _ _ => p = .val (.bool true)) := by
  obtain ⟨x, h1, h2, h3, h4, h5⟩ := args_pv l hl hf ha
  obtain ⟨t, ps, e1, e2⟩ := hE TV (splitT l x) some (.v .bool true) h4 (by
    show sealT l (splitT l x) _ = _
    rw [h5, h x h1 h2]; rfl)
  cases e1
  rw [h3]
  intro w c vs g hsz hvs
  have hps := e2.args
  have hgd : Gd w c := ⟨_, _, g⟩
  refine (e2.calls w c vs g (by rw [hsz]; exact hps.1) (VRs_le hgd hps hvs)).mono ?_
  rintro e w' ⟨v, p, H', ts', c', rfl, hp, hg, hv, hx⟩
  exact ⟨v, _, H', ts', c', rfl, rfl, hg, hp _ _ _ ⟨_, _, hg⟩ hv, hx⟩

end Go.Tm
