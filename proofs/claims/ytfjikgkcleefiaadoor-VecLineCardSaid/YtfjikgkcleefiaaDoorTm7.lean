/- The typed machine, part 7: things built; choices; calls. -/
import Derived.Test.YtfjikgkcleefiaaDoorTm6
set_option linter.unusedSimpArgs false
set_option linter.unusedVariables false
namespace Go.Tm
open Go.Ab

/-! ### noughts -/
mutual
def zeroU : (u : U) → u.T
  | .int _ => (0 : Int)
  | .bool => false
  | .str => ([] : List Int)
  | .arr n u => List.replicate n (zeroU u)
  | .sl _ => []
  | .st us => zeroUs us
  | .leaf => ()
def zeroUs : (us : Us) → us.T
  | .one u => zeroU u
  | .cons u us => (zeroU u, zeroUs us)
end

mutual
def U.solid : U → Bool
  | .arr _ u => u.solid
  | .sl u => u.solid
  | .st us => us.solid
  | .leaf => false
  | _ => true
def Us.solid : Us → Bool
  | .one u => u.solid
  | .cons u us => u.solid && us.solid
end

mutual
theorem zero_wf : ∀ u : U, u.solid = true → wfU u (zeroU u)
  | .int k, _ => by simp only [wfU, zeroU]; cases k <;> decide
  | .bool, _ => by simp only [wfU]
  | .str, _ => by simp only [wfU, zeroU]; intro n hn; cases hn
  | .arr n u, h => by
    simp only [U.solid] at h
    simp only [wfU, zeroU]
    exact ⟨List.length_replicate, fun x hx => by rw [List.eq_of_mem_replicate hx]; exact zero_wf u h⟩
  | .sl u, _ => by simp only [wfU, zeroU]; intro n hn; cases hn
  | .st us, h => by
    simp only [U.solid] at h
    simp only [wfU, zeroU]
    exact zeros_wf us h
  | .leaf, h => by simp [U.solid] at h
theorem zeros_wf : ∀ us : Us, us.solid = true → wfUs us (zeroUs us)
  | .one u, h => by
    simp only [Us.solid] at h
    simp only [wfUs, zeroUs]
    exact zero_wf u h
  | .cons u us, h => by
    simp only [Us.solid, Bool.and_eq_true] at h
    simp only [wfUs, zeroUs]
    exact ⟨zero_wf u h.1, zeros_wf us h.2⟩
end

def zeroFs (f : TypeId → Option TV) : List Field → Option (List TV)
  | [] => some []
  | x :: xs => match f x.type, zeroFs f xs with
    | some t, some ts => some (t :: ts)
    | _, _ => none

def zeroTV (P : Program) : Nat → TypeId → Option TV
  | 0, _ => none
  | n + 1, t =>
    match P.underlying t with
    | some .bool => some (.v .bool false)
    | some (.int k) => some (.v (.int k) 0)
    | some .string => some (.v .str [])
    | some (.slice _) => some .nil
    | some (.pointer _) => some .nilp
    | some (.func ..) => some .nilf
    | some (.interface _) => some .nili
    | some (.map ..) => some .nilm
    | some (.array m e) => match codeOf P n e with
      | some u => bif u.solid then some (.v (.arr m u) (List.replicate m (zeroU u))) else none
      | none => none
    | some (.struct fs) => match zeroFs (zeroTV P n) fs.toList with
      | some (t :: ts) => some (.agg (t :: ts))
      | _ => none
    | _ => none

theorem leafs_cellsL : ∀ {ts : List TV}, (∀ t, t ∈ ts → t.wf ∧ t.stores = true) → Leafs (TV.cellsL ts)
  | [], _ => fun p hp => by simp [TV.cellsL] at hp
  | t :: ts, h => fun p hp => by
    rw [cellsL_cons] at hp
    rcases List.mem_append.1 hp with hp | hp
    · exact leafs_cells (h t (by simp)).1 (h t (by simp)).2 p hp
    · exact leafs_cellsL (fun s hs => h s (by simp [hs])) p hp

theorem zeroFs_mem {f : TypeId → Option TV} : ∀ {fs : List Field} {ts : List TV}, zeroFs f fs = some ts → ∀ t, t ∈ ts → ∃ x, f x = some t
  | [], ts, h, t, ht => by simp only [zeroFs, Option.some.injEq] at h; subst h; cases ht
  | x :: xs, ts, h, t, ht => by
    simp only [zeroFs] at h
    split at h
    · rename_i t' ts' h1 h2
      cases h
      rcases List.mem_cons.1 ht with rfl | ht
      · exact ⟨_, h1⟩
      · exact zeroFs_mem h2 t ht
    · cases h

theorem wf_agg {ts : List TV} (h0 : ts ≠ []) (h : ∀ t, t ∈ ts → t.wf ∧ t.stores = true) : (TV.agg ts).wf := by
  simp only [TV.wf]
  exact ⟨h0, wfs_iff.2 fun t ht => (h t ht).1, leafs_cellsL h⟩

theorem zeroTV_wf {P : Program} : ∀ (n : Nat) (t : TypeId) {z : TV}, zeroTV P n t = some z → z.wf ∧ z.stores = true
  | 0, _, _, h => by simp [zeroTV] at h
  | n + 1, t, z, h => by
    simp only [zeroTV] at h
    split at h
    · cases h; exact ⟨by simp only [TV.wf, wfU], rfl⟩
    · rename_i k _; cases h; exact ⟨by simp only [TV.wf, wfU]; cases k <;> decide, rfl⟩
    · cases h; exact ⟨by (simp only [TV.wf, wfU]; intro n hn; cases hn), rfl⟩
    · cases h; exact ⟨by simp only [TV.wf], rfl⟩
    · cases h; exact ⟨by simp only [TV.wf], rfl⟩
    · cases h; exact ⟨by simp only [TV.wf], rfl⟩
    · cases h; exact ⟨by simp only [TV.wf], rfl⟩
    · cases h; exact ⟨by simp only [TV.wf], rfl⟩
    · split at h
      · rename_i u _
        cases hs : u.solid with
        | false => rw [hs] at h; cases h
        | true =>
          rw [hs] at h; cases h
          refine ⟨?_, rfl⟩
          simp only [TV.wf, wfU]
          exact ⟨List.length_replicate, fun x hx => by rw [List.eq_of_mem_replicate hx]; exact zero_wf u hs⟩
      · cases h
    · split at h
      · rename_i t' ts hf
        cases h
        refine ⟨wf_agg (by simp) fun t ht => ?_, rfl⟩
        obtain ⟨x, hx⟩ := zeroFs_mem hf t ht
        exact zeroTV_wf n x hx
      · cases h
    · cases h

def pvLe : PV → PV → Bool
  | .val (.bool a), .val (.bool b) => a == b
  | .val (.int k a), .val (.int k' b) => kindBeq k k' && decide (a = b)
  | .val (.string s), .val (.string s') => Nat.beq s.size 0 && Nat.beq s'.size 0
  | .val (.pointer none), .val (.pointer none) => true
  | .val .nilFunc, .val .nilFunc => true
  | .val .nilIface, .val .nilIface => true
  | .val (.map none), .val (.map none) => true
  | .tr 0 [] .full, .tr 0 [] .full => true
  | .tr 0 [] .full, .tr 0 [] .no => true
  | _, _ => false

theorem pvLe_spec {p q : PV} (h : pvLe p q = true) : PLe p q := by
  unfold pvLe at h
  split at h
  · rw [eq_of_beq h]; exact PLe.refl _
  · simp only [Bool.and_eq_true, decide_eq_true_eq] at h
    rw [kindBeq_eq h.1, h.2]; exact PLe.refl _
  · simp only [Bool.and_eq_true] at h
    rename_i s s'
    have h1 := Nat.eq_of_beq_eq_true h.1
    have h2 := Nat.eq_of_beq_eq_true h.2
    have e : s = s' := ByteArray.ext (by
      have a1 : s.data = #[] := Array.eq_empty_of_size_eq_zero h1
      have a2 : s'.data = #[] := Array.eq_empty_of_size_eq_zero h2
      rw [a1, a2])
    rw [e]; exact PLe.refl _
  · exact PLe.refl _
  · exact PLe.refl _
  · exact PLe.refl _
  · exact PLe.refl _
  · exact PLe.refl _
  · exact PLe_tr _
  · cases h

def pvLeL : List PV → List PV → Bool
  | [], [] => true
  | p :: ps, q :: qs => pvLe p q && pvLeL ps qs
  | _, _ => false

theorem CLe.cons {p q : PV} {ps qs : List PV} (h : PLe p q) (g : CLe ps qs) : CLe (p :: ps) (q :: qs) := (CLe_one h).append g

theorem pvLeL_spec : ∀ {ps qs : List PV}, pvLeL ps qs = true → CLe ps qs
  | [], [], _ => CLe.refl _
  | [], _ :: _, h => by simp [pvLeL] at h
  | _ :: _, [], h => by simp [pvLeL] at h
  | p :: ps, q :: qs, h => by
    simp only [pvLeL, Bool.and_eq_true] at h
    exact CLe.cons (pvLe_spec h.1) (pvLeL_spec h.2)

/-- noughts of a type -/
def zeroK (P : Program) (t : TypeId) : Option TV :=
  match zeroPV P t, zeroTV P eqFuel t with
  | some z, some tv => bif pvLeL z tv.cells && z.all leaf then some tv else none
  | _, _ => none

theorem zeroK_spec {P : Program} {t : TypeId} {tv : TV} (h : zeroK P t = some tv) : tv.wf ∧ tv.stores = true ∧ ∃ z, zeroPV P t = some z ∧ Leafs z ∧ CLe z tv.cells := by
  unfold zeroK at h
  split at h
  · rename_i z tv' h1 h2
    cases hc : pvLeL z tv'.cells && z.all leaf with
    | false => rw [hc] at h; cases h
    | true =>
      rw [hc] at h; cases h
      simp only [Bool.and_eq_true] at hc
      obtain ⟨h3, h4⟩ := zeroTV_wf _ _ h2
      exact ⟨h3, h4, z, h1, fun p hp => List.all_eq_true.1 hc.2 p hp, pvLeL_spec hc.1⟩
  · cases h

/-! ### structs and arrays that are built -/
def structK {R : Type} (P : Program) (t : TypeId) : List TV → List (Nat × TV) → (List TV → Option R) → Option R
  | zs, [], k => k zs
  | zs, (i, p) :: ps, k =>
    match zs[i]?, placeOf P t i with
    | some z, some (off, n) => bif p.stores && p.lay.beq z.lay && Nat.beq off ((TV.layS zs).off i) && Nat.beq n z.lay.size then structK P t (zs.set i p) ps k else none
    | _, _ => none

def arrK {R : Type} (P : Program) (t : TypeId) (m : Nat) (u : U) : List u.T → List (Nat × TV) → (List u.T → Option R) → Option R
  | l, [], k => k l
  | l, (i, p) :: ps, k =>
    match placeOf P t i with
    | some (off, n) => bif p.stores && Nat.blt i m && Nat.beq off (i * u.size) && Nat.beq n u.size then sealK p u fun x => arrK P t m u (l.set i x) ps k else none
    | _ => none

theorem CLe.splice2 {a b p q : List PV} {o : Nat} (hb : CLe a b) (h : CLe p q) (ho : o + p.length ≤ a.length) : CLe (Ab.splice a o p) (Ab.splice b o q) := by
  have ho2 : o + q.length ≤ b.length := by rw [← h.1, ← hb.1]; exact ho
  refine ⟨by rw [splice_length _ _ _ ho, splice_length _ _ _ ho2, hb.1], fun i x y hx hy => ?_⟩
  rw [splice_get _ _ _ _ ho] at hx
  rw [splice_get _ _ _ _ ho2, ← h.1] at hy
  split at hx
  · rename_i hi; rw [if_pos hi] at hy; exact h.2 _ x y hx hy
  · rename_i hi; rw [if_neg hi] at hy; exact hb.2 _ x y hx hy

theorem struct_spec {R : Type} {P : Program} {t : TypeId} : ∀ {ps : List (Nat × TV)} {zs : List TV} {k : List TV → Option R} {r : R} {z : List PV}, TV.wfs zs → (∀ s, s ∈ zs → s.stores = true) → zs ≠ [] → (∀ p, p ∈ ps → p.2.wf) →
    CLe z (TV.cellsL zs) → structK P t zs ps k = some r →
    ∃ zs' r', k zs' = some r ∧ (∀ s, s ∈ zs' → s.wf ∧ s.stores = true) ∧ zs' ≠ [] ∧ Fill (placeOf P t) z (ps.map fun x => (x.1, x.2.pv)) r' ∧ CLe r' (TV.cellsL zs')
  | [], zs, k, r, z, hw, hs, hn, hp, hz, h => ⟨zs, z, by simpa only [structK] using h, fun s hm => ⟨wfs_iff.1 hw s hm, hs s hm⟩, hn, rfl, hz⟩
  | (i, p) :: ps, zs, k, r, z, hw, hs, hn, hp, hz, h => by
    simp only [structK] at h
    split at h
    · rename_i zz off n hzi hpl
      cases hc : p.stores && p.lay.beq zz.lay && Nat.beq off ((TV.layS zs).off i) && Nat.beq n zz.lay.size with
      | false => rw [hc] at h; cases h
      | true =>
        rw [hc] at h
        simp only [Bool.and_eq_true] at hc
        obtain ⟨⟨⟨c1, c2⟩, c3⟩, c4⟩ := hc
        have e2 := U.beq_eq c2
        have e3 := Nat.eq_of_beq_eq_true c3
        have e4 := Nat.eq_of_beq_eq_true c4
        have hpw := hp (i, p) (by simp)
        obtain ⟨g1, g2, g3⟩ := agg_set hw hzi hpw e2
        obtain ⟨a1, a2, a3⟩ := agg_at hw hzi
        have hlz := cells_len zz (wfs_iff.1 hw zz (List.mem_of_getElem? hzi))
        have hlp := cells_len p hpw
        have hb : off + p.cells.length ≤ z.length := by rw [e3, hlp, e2, ← hlz, hz.1]; exact a3
        have hz' : CLe (splice z off p.cells) (TV.cellsL (zs.set i p)) := by
          rw [g1, ← e3]; exact CLe.splice2 hz (CLe.refl _) hb
        obtain ⟨zs', r', f1, f2, f3, f4, f5⟩ := struct_spec (ps := ps) g3 (fun s hm => by
            rcases List.mem_or_eq_of_mem_set hm with hm | hm
            · exact hs s hm
            · rw [hm]; exact c1) (by simp; exact hn) (fun q hq => hp q (by simp [hq])) hz' h
        refine ⟨zs', r', f1, f2, f3, ⟨off, n, hpl, stor_of hpw c1, ?_, ?_, f4⟩, f5⟩
        · rw [e4, ← e2, ← hlp]; rfl
        · have : n = p.cells.length := by rw [hlp, e4, e2]
          rw [this]; exact hb
    · cases h

theorem arr_spec {R : Type} {P : Program} {t : TypeId} {m : Nat} {u : U} : ∀ {ps : List (Nat × TV)} {l : List u.T} {k : List u.T → Option R} {r : R} {z : List PV}, l.length = m → (∀ x, x ∈ l → wfU u x) → (∀ p, p ∈ ps → p.2.wf) →
    CLe z (rowU u l) → arrK P t m u l ps k = some r →
    ∃ l' r', k l' = some r ∧ l'.length = m ∧ (∀ x, x ∈ l' → wfU u x) ∧ Fill (placeOf P t) z (ps.map fun x => (x.1, x.2.pv)) r' ∧ CLe r' (rowU u l')
  | [], l, k, r, z, hm, hw, hp, hz, h => ⟨l, z, by simpa only [arrK] using h, hm, hw, rfl, hz⟩
  | (i, p) :: ps, l, k, r, z, hm, hw, hp, hz, h => by
    simp only [arrK] at h
    split at h
    · rename_i off n hpl
      cases hc : p.stores && Nat.blt i m && Nat.beq off (i * u.size) && Nat.beq n u.size with
      | false => rw [hc] at h; cases h
      | true =>
        rw [hc] at h
        simp only [Bool.and_eq_true] at hc
        obtain ⟨⟨⟨c1, c2⟩, c3⟩, c4⟩ := hc
        have e2 : i < m := Nat.blt_eq.mp c2
        have e3 := Nat.eq_of_beq_eq_true c3
        have e4 := Nat.eq_of_beq_eq_true c4
        have hpw := hp (i, p) (by simp)
        obtain ⟨x, h1, h2, h3⟩ := lay_of_seal hpw h
        have hlx := cellU_len u x h2
        have hil : i < l.length := by rw [hm]; exact e2
        have hrow := (row_split hw (List.getElem?_eq_getElem hil)).2
        have hb : off + p.cells.length ≤ z.length := by rw [e3, h3.1, hlx, hz.1]; exact hrow
        have hset := row_set hw h2 hil
        have hz' : CLe (splice z off p.cells) (rowU u (l.set i x)) := by
          rw [hset, ← e3]; exact CLe.splice2 hz h3 hb
        obtain ⟨l', r', f1, f2, f3, f4, f5⟩ := arr_spec (ps := ps) (l := l.set i x) (by simp [hm]) (fun y hy => by
            rcases List.mem_or_eq_of_mem_set hy with hy | hy
            · exact hw y hy
            · rw [hy]; exact h2) (fun q hq => hp q (by simp [hq])) hz' h1
        have hn : n = p.cells.length := by rw [h3.1, hlx, e4]
        exact ⟨l', r', f1, f2, f3, ⟨off, n, hpl, stor_of hpw c1, hn.symm, by rw [hn]; exact hb, f4⟩, f5⟩
    · cases h

def buildK {R : Type} (P : Program) (t : TypeId) (ps : List (Nat × TV)) (k : TV → Option R) : Option R :=
  match zeroK P t with
  | some (.agg zs) => bif fldsOk P t && ps.all (fun x => x.2.stores) then structK P t zs ps fun zs' => k (.agg zs') else none
  | some (.v (.arr m u) l) => bif fldsOk P t && ps.all (fun x => x.2.stores) then arrK P t m u l ps fun l' => k (.v (.arr m u) l') else none
  | _ => none

theorem parts_eq {σ : TS} : ∀ {parts : List (Nat × Operand)}, (parts.map fun x => (x.1, σ.eval x.2)).all (fun x => x.2.stores) = true →
    parts.map (fun x => (x.1, σ.flat.eval x.2)) = (parts.map fun x => (x.1, σ.eval x.2)).map fun x => (x.1, x.2.pv)
  | [], _ => rfl
  | x :: l, h => by
    simp only [List.map_cons, List.all_cons, Bool.and_eq_true] at h
    simp only [List.map_cons, parts_eq h.2]
    congr 2
    rcases eval_flat σ x.2 with e | e
    · exact e
    · rw [e] at h; simp [TV.stores] at h

theorem build_spec {R : Type} {P : Program} {o : Oper} {σ : TS} {t : TypeId} {parts : Array (Nat × Operand)} {k : TV → Option R} {r : R} (ho : o.op = .build t parts) (hw : σ.wf)
    (h : buildK P t (parts.toList.map fun x => (x.1, σ.eval x.2)) k = some r) : ∃ q, k q = some r ∧ TQ P o σ q := by
  have hpw : ∀ p, p ∈ (parts.toList.map fun x => (x.1, σ.eval x.2)) → p.2.wf := fun p hp => by
    simp only [List.mem_map] at hp
    obtain ⟨x, _, rfl⟩ := hp
    exact eval_wf hw x.2
  unfold buildK at h
  split at h
  · rename_i zs hz
    obtain ⟨z1, z2, z, z3, z4, z5⟩ := zeroK_spec hz
    cases hc : fldsOk P t && (parts.toList.map fun x => (x.1, σ.eval x.2)).all (fun x => x.2.stores) with
    | false => rw [hc] at h; cases h
    | true =>
      rw [hc] at h
      simp only [Bool.and_eq_true] at hc
      simp only [TV.wf] at z1
      have hst : ∀ s, s ∈ zs → s.stores = true := by
        intro s hs
        cases hss : s.stores with
        | true => rfl
        | false =>
          exfalso
          obtain ⟨i, hi⟩ := List.mem_iff_getElem?.1 hs
          obtain ⟨_, h2, h3⟩ := agg_at z1.2.1 hi
          have hleaf : ∀ q, q ∈ s.cells → leaf q = true := fun q hq => z1.2.2 q (List.mem_of_mem_drop (List.mem_of_mem_take (h2 ▸ hq)))
          cases s <;> first | (cases hss; done) | skip
          all_goals
            have := hleaf _ (by simp only [TV.cells, TV.pv, cellsOf]; exact List.mem_singleton.2 rfl)
            simp [leaf] at this
      rw [cells_agg] at z5
      obtain ⟨zs', r', f1, f2, f3, f4, f5⟩ := struct_spec z1.2.1 hst z1.1 hpw z5 h
      have hwf := wf_agg f3 f2
      refine ⟨_, f1, hwf, ?_⟩
      intro Y
      have := q_build (σ := { σ.flat with H := σ.flat.H ++ Y }) ho z3 z4 hc.1 (parts_eq hc.2) f4
      exact qle this (by simp only [TV.pv]; exact PLe_agg f5 (leafs_cellsL f2))
  · rename_i m u l hz
    obtain ⟨z1, z2, z, z3, z4, z5⟩ := zeroK_spec hz
    cases hc : fldsOk P t && (parts.toList.map fun x => (x.1, σ.eval x.2)).all (fun x => x.2.stores) with
    | false => rw [hc] at h; cases h
    | true =>
      rw [hc] at h
      simp only [Bool.and_eq_true] at hc
      simp only [TV.wf, wfU] at z1
      rw [cells_arr] at z5
      obtain ⟨l', r', f1, f2, f3, f4, f5⟩ := arr_spec z1.1 z1.2 hpw z5 h
      refine ⟨_, f1, by simp only [TV.wf, wfU]; exact ⟨f2, f3⟩, ?_⟩
      intro Y
      have := q_build (σ := { σ.flat with H := σ.flat.H ++ Y }) ho z3 z4 hc.1 (parts_eq hc.2) f4
      exact qle this (by simp only [TV.pv, pvU, cellU]; exact PLe_agg f5 (leafs_rowU f3))
  · cases h

/-! ### slices that are written out -/
def sealAllK {R : Type} (u : U) : List TV → (List u.T → Option R) → Option R
  | [], k => k []
  | t :: ts, k => sealK t u fun x => sealAllK u ts fun l => k (x :: l)

def counts : List (Nat × TV) → Nat → Bool
  | [], _ => true
  | (i, _) :: r, n => Nat.beq i n && counts r (n + 1)

def buildSliceK {R : Type} (P : Program) (t : TypeId) (len : Nat) (ps : List (Nat × TV)) (k : TV → Option R) : Option R :=
  match P.underlying t with
  | some (.slice e) =>
    match codeOf P eqFuel e, tySz P e, zeroPV P e with
    | some u, some n, some z => bif Nat.beq n u.size && !Nat.beq n 0 && !Nat.beq len 0 && Nat.beq z.length n && z.all leaf && Nat.ble (len * n) 16777216 && Nat.beq ps.length len && counts ps 0 && ps.all (fun x => x.2.stores)
      then sealAllK u (ps.map (·.2)) fun l => k (.fsl u l) else none
    | _, _, _ => none
  | _ => none

theorem sealAll_spec {R : Type} {u : U} : ∀ {ts : List TV} {k : List u.T → Option R} {r : R}, (∀ t, t ∈ ts → t.wf) → sealAllK u ts k = some r →
    ∃ l, k l = some r ∧ l.length = ts.length ∧ (∀ x, x ∈ l → wfU u x) ∧ CLe (ts.flatMap TV.cells) (rowU u l) ∧ ∀ t, t ∈ ts → t.cells.length = u.size
  | [], k, r, _, h => ⟨[], by simpa only [sealAllK] using h, rfl, fun x hx => (by cases hx), CLe.refl _, fun t ht => (by cases ht)⟩
  | t :: ts, k, r, hw, h => by
    simp only [sealAllK] at h
    obtain ⟨x, h1, h2, h3⟩ := lay_of_seal (hw t (by simp)) h
    obtain ⟨l, g1, g2, g3, g4, g5⟩ := sealAll_spec (fun s hs => hw s (by simp [hs])) h1
    refine ⟨x :: l, g1, by simp [g2], fun y hy => ?_, ?_, fun s hs => ?_⟩
    · rcases List.mem_cons.1 hy with rfl | hy
      · exact h2
      · exact g3 y hy
    · simp only [List.flatMap_cons, rowU]
      exact h3.append g4
    · rcases List.mem_cons.1 hs with rfl | hs
      · rw [h3.1, cellU_len u x h2]
      · exact g5 s hs

theorem counts_spec : ∀ {ps : List (Nat × TV)} {n : Nat}, counts ps n = true → ps.map (fun x => (x.1, x.2.pv)) = ((ps.map fun x => x.2.pv).zipIdx n).map fun x => (x.2, x.1)
  | [], _, _ => rfl
  | (i, p) :: r, n, h => by
    simp only [counts, Bool.and_eq_true] at h
    have e := Nat.eq_of_beq_eq_true h.1
    simp only [List.map_cons, List.zipIdx_cons, e, counts_spec h.2]

theorem PLe_trc {len : Nat} {cs ds : List PV} {t : Tail} (h : CLe cs ds) (hl : Leafs ds) : PLe (.tr len cs t) (.tr len ds t) := by
  intro w c v hg hv
  simp only [VR] at hv ⊢
  rcases hv with ⟨h3, h4, h5, h6⟩ | ⟨ad, cap, h3, h4, h5, h6, h7, h8⟩
  · refine .inl ⟨h3, h4, ?_, h6⟩
    subst h5
    exact List.eq_nil_of_length_eq_zero (by rw [← h.1]; rfl)
  · refine .inr ⟨ad, cap, h3, h4, by rw [← h.1]; exact h5, ?_, hl, VRs_le hg h h8⟩
    rw [← h.1]; exact h6

theorem buildSlice_spec {R : Type} {P : Program} {o : Oper} {σ : TS} {t : TypeId} {len : Nat} {parts : Array (Nat × Operand)} {k : TV → Option R} {r : R} (ho : o.op = .buildSlice t len parts) (hw : σ.wf)
    (h : buildSliceK P t len (parts.toList.map fun x => (x.1, σ.eval x.2)) k = some r) : ∃ q, k q = some r ∧ TQ P o σ q := by
  have hpw : ∀ p, p ∈ (parts.toList.map fun x => (x.1, σ.eval x.2)) → p.2.wf := fun p hp => by
    simp only [List.mem_map] at hp
    obtain ⟨x, _, rfl⟩ := hp
    exact eval_wf hw x.2
  unfold buildSliceK at h
  split at h
  · rename_i e hu
    split at h
    · rename_i u n z hcode hn hz
      generalize hps : (parts.toList.map fun x => (x.1, σ.eval x.2)) = ps at h hpw
      cases hc : Nat.beq n u.size && !Nat.beq n 0 && !Nat.beq len 0 && Nat.beq z.length n && z.all leaf && Nat.ble (len * n) 16777216 && Nat.beq ps.length len && counts ps 0 && ps.all (fun x => x.2.stores) with
      | false => rw [hc] at h; cases h
      | true =>
        rw [hc] at h
        simp only [Bool.and_eq_true, Bool.not_eq_true'] at hc
        obtain ⟨⟨⟨⟨⟨⟨⟨⟨c1, c2⟩, c3⟩, c4⟩, c5⟩, c6⟩, c7⟩, c8⟩, c9⟩ := hc
        have e1 := Nat.eq_of_beq_eq_true c1
        have e7 := Nat.eq_of_beq_eq_true c7
        have n0 : n ≠ 0 := fun e => by rw [e] at c2; cases c2
        have l0 : len ≠ 0 := fun e => by rw [e] at c3; cases c3
        obtain ⟨l, g1, g2, g3, g4, g5⟩ := sealAll_spec (fun s hs => by
          simp only [List.mem_map] at hs
          obtain ⟨x, hx, rfl⟩ := hs
          exact hpw x hx) h
        simp only [List.length_map] at g2
        refine ⟨_, g1, by simpa only [TV.wf] using g3, ?_⟩
        have hst : ∀ p, p ∈ ps.map (fun x => x.2.pv) → stor p = true ∧ (cellsOf p).length = n := fun p hp => by
          simp only [List.mem_map] at hp
          obtain ⟨x, hx, rfl⟩ := hp
          exact ⟨stor_of (hpw x hx) (List.all_eq_true.1 c9 x hx), by rw [e1]; exact g5 x.2 (List.mem_map.2 ⟨x, hx, rfl⟩)⟩
        intro Y
        have hq := q_lit (σ := { σ.flat with H := σ.flat.H ++ Y }) (ps := ps.map fun x => x.2.pv) ho hu hn n0 l0 hz (Nat.eq_of_beq_eq_true c4) (fun p hp => List.all_eq_true.1 c5 p hp) (by have := Nat.le_of_ble_eq_true c6; omega) (by simpa using e7)
          (by rw [show (parts.toList.map fun x => (x.1, AS.eval { σ.flat with H := σ.flat.H ++ Y } x.2)) = parts.toList.map fun x => (x.1, σ.flat.eval x.2) from rfl, parts_eq (by rw [hps]; exact c9), hps]; exact counts_spec c8) hst
        have e2 : (ps.map fun x => x.2.pv).flatMap cellsOf = (ps.map (·.2)).flatMap TV.cells := by simp [List.flatMap_map, TV.cells]
        rw [e2] at hq
        refine qle hq ?_
        simp only [TV.pv]
        rw [g2, e7]
        exact PLe_trc g4 (leafs_rowU g3)
    · cases h
  · cases h

/-! ### choices -/
def pickK {R : Type} (c a b : TV) (k : TV → Option R) : Option R :=
  match c with
  | .v .bool β =>
    match a, b with
    | .v u x, .v u' y => bif u.beq u' then castK u' u y fun z => k (.v u (cond β x z)) else cond β (k (.v u x)) (k (.v u' y))
    | a, b => cond β (k a) (k b)
  | _ => none

theorem pick_spec {R : Type} {P : Program} {o : Oper} {σ : TS} {c x y : Operand} {k : TV → Option R} {r : R} (ho : o.op = .pick c x y) (hw : σ.wf) (h : pickK (σ.eval c) (σ.eval x) (σ.eval y) k = some r) :
    ∃ q, k q = some r ∧ TQ P o σ q := by
  have hwx := eval_wf hw x
  have hwy := eval_wf hw y
  unfold pickK at h
  generalize hc : σ.eval c = cc at h
  split at h
  · rename_i β
    have ec : σ.flat.eval c = .val (.bool β) := eval_eq hc (by simp)
    have either : cond β (k (σ.eval x)) (k (σ.eval y)) = some r → ∃ q, k q = some r ∧ TQ P o σ q := fun hh => by
      cases β with
      | true => exact ⟨_, hh, hwx, fun _ => qle (q_pick ho ec rfl) (eval_ple σ x)⟩
      | false => exact ⟨_, hh, hwy, fun _ => qle (q_pick ho ec rfl) (eval_ple σ y)⟩
    split at h
    · rename_i u x' u' y' hx hy
      cases hb : u.beq u' with
      | false => rw [hb] at h; rw [hx, hy] at either; exact either h
      | true =>
        rw [hb] at h
        simp only [cond_true] at h
        obtain ⟨e, h⟩ := castK_some h
        subst e
        cases β with
        | true =>
          refine ⟨_, h, by rw [hx] at hwx; exact hwx, fun _ => qle (q_pick ho ec rfl) ?_⟩
          have := eval_ple σ x
          rw [hx] at this; exact this
        | false =>
          refine ⟨_, h, by rw [hy] at hwy; exact hwy, fun _ => qle (q_pick ho ec rfl) ?_⟩
          have := eval_ple σ y
          rw [hy] at this; exact this
    · exact either h
  · cases h

/-! ### calls of functions that neither read nor write the abstract heap -/
structure Ent where
  f : FuncId
  ok : List TV → Bool
  run : {R : Type} → List TV → (TV → Option R) → Option R

structure Called (P : Program) (f : FuncId) (args : List PV) (t : TV) (ps : List PV) : Prop where
  wf : t.wf
  pure : Pure t.pv
  pures : Pures ps
  args : CLe args ps
  can : callable P f = true
  calls : ACalls P f ps [] 0 (fun p _ _ => PLe p t.pv)

def EntOK (P : Program) (e : Ent) : Prop := ∀ (R : Type) (args : List TV) (k : TV → Option R) (r : R), (∀ a, a ∈ args → a.wf) → e.run args k = some r → ∃ t ps, k t = some r ∧ Called P e.f (args.map TV.pv) t ps

def callK {R : Type} (E : List Ent) (f : FuncId) (args : List TV) (k : TV → Option R) : Option R :=
  match E with
  | [] => none
  | e :: E => bif Nat.beq e.f f && e.ok args then e.run args k else callK E f args k

def EnvOK (P : Program) (E : List Ent) : Prop := ∀ e, e ∈ E → EntOK P e

theorem env_nil (P : Program) : EnvOK P [] := fun _ h => by cases h
theorem env_cons {P : Program} {e : Ent} {E : List Ent} (h : EntOK P e) (g : EnvOK P E) : EnvOK P (e :: E) := fun x hx => by
  rcases List.mem_cons.1 hx with rfl | hx
  · exact h
  · exact g x hx

theorem call_found {R : Type} {P : Program} : ∀ {E : List Ent} {f : FuncId} {args : List TV} {k : TV → Option R} {r : R}, EnvOK P E → (∀ a, a ∈ args → a.wf) → callK E f args k = some r →
    ∃ t ps, k t = some r ∧ Called P f (args.map TV.pv) t ps
  | [], _, _, _, _, _, _, h => by simp [callK] at h
  | e :: E, f, args, k, r, hE, hw, h => by
    simp only [callK] at h
    cases hc : Nat.beq e.f f && e.ok args with
    | true =>
      rw [hc] at h
      simp only [Bool.and_eq_true] at hc
      have := Nat.eq_of_beq_eq_true hc.1
      subst this
      exact hE e (by simp) R args k r hw h
    | false => rw [hc] at h; exact call_found (fun x hx => hE x (by simp [hx])) hw h

theorem run_callv {P : Program} {o : Oper} {f : FuncId} {fo : Operand} {xs : Array Operand} {ats : Array TypeId} {ρ : Operand → Value} {cv : Array Value} (ho : o.op = .call { callee := .value fo, args := xs, argTypes := ats })
    (hc : callable P f = true) (hρ : ρ fo = .func (.func f) #[] cv) (w : World) : (execOp ρ o).run P w = .ok (.enter f (xs.map ρ ++ cv)) w := by
  simp only [execOp, ho, resolve, hρ, Deferred.ofValue, Sem.run_bind, Sem.run_pure, Result.andThen_ok, invoke]
  have := run_callFunc hc (xs.map ρ ++ cv) w
  simpa using this

theorem q_callv {P : Program} {o : Oper} {σ : AS} {f : FuncId} {fo : Operand} {xs : Array Operand} {ats : Array TypeId} {caps ps : List PV} {r : PV} (hts : σ.ts = [])
    (ho : o.op = .call { callee := .value fo, args := xs, argTypes := ats }) (hfo : σ.eval fo = .fn f caps) (hc : callable P f = true) (hps : CLe (xs.toList.map σ.eval ++ caps) ps) (hp : Pures ps) (hr : Pure r)
    (h : ACalls P f ps [] 0 (fun p _ _ => PLe p r)) : QStep P o σ r := by
  intro c a w K Q hrel hK
  have hfv := hrel.2.eval fo
  rw [hfo] at hfv
  simp only [VR] at hfv
  obtain ⟨cv, hf1, hf2, hf3⟩ := hfv
  unfold Oper.wp
  rw [run_callv ho hc hf1]
  show Calls P f (xs.map a.eval ++ cv) w _
  have hgd : Gd w c := ⟨_, _, hrel.1⟩
  have hraw : VRs w c (xs.toList.map σ.eval ++ caps) (fun i => (xs.map a.eval ++ cv)[i]?) := by
    refine VRs_append (VRs_mk fun i p hi => ?_) (VRs_congr hf3 fun i hi => ?_)
    · rw [List.getElem?_map] at hi
      cases hx : xs.toList[i]? with
      | none => rw [hx] at hi; cases hi
      | some x =>
        rw [hx] at hi; simp at hi; subst hi
        have hx' : xs[i]? = some x := by simpa using hx
        have hlt : i < (xs.map a.eval).size := by
          have := (Array.getElem?_eq_some_iff.1 hx').1; simpa using this
        exact ⟨a.eval x, by rw [Array.getElem?_append_left hlt]; simp [hx'], hrel.2.eval x⟩
    · rw [Array.getElem?_append_right (by simp)]
      congr 1
      simp
  have hargs : VRs w (calleeCx w c σ.ts.length) ps (fun i => (xs.map a.eval ++ cv)[i]?) := VRs.transfer (callee_foot _) ps hp (VRs_le hgd hps hraw)
  have hlen : (xs.map a.eval ++ cv).size = ps.length := by rw [← hps.1]; simp [hf2]
  have hgood := callee_good hrel.1 σ.ts.length
  rw [hts] at hgood hargs
  refine (h w (calleeCx w c 0) (xs.map a.eval ++ cv) hgood hlen hargs).mono ?_
  rintro e w' ⟨v, p, H', ts, c', rfl, hpr, hg, hv, hx⟩
  obtain ⟨g', x'⟩ := caller_quiet hrel.1 hx
  exact hK v w' (VR.transfer (caller_foot hrel.1 hx) _ hr (hpr _ _ _ ⟨_, _, hg⟩ hv)) g' x'

theorem CLe_evals (σ : TS) : ∀ xs : List Operand, CLe (xs.map σ.flat.eval) ((xs.map σ.eval).map TV.pv)
  | [] => CLe.refl _
  | x :: xs => CLe.cons (eval_ple σ x) (CLe_evals σ xs)

def callTK {R : Type} (E : List Ent) (fv : TV) (args : List TV) (k : TV → Option R) : Option R :=
  match fv with
  | .fn f caps => callK E f (args ++ caps) k
  | _ => none

theorem call_spec {R : Type} {P : Program} {E : List Ent} {o : Oper} {σ : TS} {fo : Operand} {xs : Array Operand} {ats : Array TypeId} {k : TV → Option R} {r : R} (hE : EnvOK P E)
    (ho : o.op = .call { callee := .value fo, args := xs, argTypes := ats }) (hw : σ.wf) (h : callTK E (σ.eval fo) (xs.toList.map σ.eval) k = some r) : ∃ q, k q = some r ∧ TQ P o σ q := by
  have hwf := eval_wf hw fo
  unfold callTK at h
  generalize hfo : σ.eval fo = fv at h hwf
  split at h
  · rename_i f caps
    simp only [TV.wf] at hwf
    obtain ⟨t, ps, h1, h2⟩ := call_found hE (fun a ha => by
      rcases List.mem_append.1 ha with ha | ha
      · simp only [List.mem_map] at ha
        obtain ⟨x, _, rfl⟩ := ha
        exact eval_wf hw x
      · exact wfs_iff.1 hwf a ha) h
    refine ⟨t, h1, h2.wf, ?_⟩
    have ef : σ.flat.eval fo = .fn f (TV.pvs caps) := by rw [eval_eq hfo (by simp)]; simp only [TV.pv]
    refine fun Y => q_callv (σ := { σ.flat with H := σ.flat.H ++ Y }) rfl ho ef h2.can ?_ h2.pures h2.pure h2.calls
    have := h2.args
    rw [List.map_append] at this
    refine CLe.trans ((CLe_evals σ xs.toList).append ?_) this
    rw [pvs_map]; exact CLe.refl _
  · cases h

end Go.Tm
