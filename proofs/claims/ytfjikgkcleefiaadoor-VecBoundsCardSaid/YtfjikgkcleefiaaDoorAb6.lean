/- An abstract calculus over the model's weakest preconditions, part 6: what is built, variables, stores, appends. -/
import Derived.Test.YtfjikgkcleefiaaDoorAb5
namespace Go.Ab

def cellsOf : PV → List PV
  | .agg cs => cs
  | p => [p]

/-- A value that a variable may hold: a leaf, or leaves. -/
def stor : PV → Bool
  | .tup _ | .dead => false
  | _ => true

theorem cells_rel {w : World} {c : Cx} {p : PV} {v : Value} (hs : stor p = true) (h : VR w c p v) :
    v.cells.size = (cellsOf p).length ∧ Leafs (cellsOf p) ∧ VRs w c (cellsOf p) (fun i => v.cells[i]?) := by
  by_cases hl : leaf p = true
  · have e : cellsOf p = [p] := by cases p <;> first | rfl | cases hl
    have ev : v.cells = #[v] := by
      have := leaf_one hl h
      cases v <;> first | rfl | cases this
    rw [e, ev]
    refine ⟨rfl, fun q hq => by simp at hq; subst hq; exact hl, ?_⟩
    simp only [VRs]
    exact ⟨⟨v, rfl, h⟩, trivial⟩
  · cases p <;> first | (exact absurd rfl hl) | (cases hs; done) | skip
    simp only [VR] at h
    obtain ⟨vs, rfl, h1, h2, h3⟩ := h
    exact ⟨h1, h2, h3⟩

/-! ### zero values -/
def zeroPV (P : Program) (t : TypeId) : Option (List PV) :=
  match (P.info? t).bind (·.zero) with
  | some v => some (v.cells.toList.map ofV)
  | none => none

theorem run_zeroValue {P : Program} {w : World} {t : TypeId} {cs : List PV} (h : zeroPV P t = some cs) :
    ∃ v, (zeroValue t).run P w = .ok v w ∧ v.cells.size = cs.length ∧ ∀ c, VRs w c cs (fun i => v.cells[i]?) := by
  unfold zeroPV at h
  cases hi : P.info? t with
  | none => rw [hi] at h; cases h
  | some i =>
    rw [hi] at h
    simp only [Option.bind_some] at h
    cases hz : i.zero with
    | none => rw [hz] at h; cases h
    | some v =>
      rw [hz] at h
      simp at h
      subst h
      refine ⟨v, by simp [zeroValue, typeInfo, hi, hz], by simp, fun c => VRs_mk fun j p hp => ?_⟩
      rw [List.getElem?_map] at hp
      cases hj : v.cells.toList[j]? with
      | none => rw [hj] at hp; cases hp
      | some u =>
        rw [hj] at hp
        simp at hp
        subst hp
        exact ⟨u, by simpa using hj, VR_ofV u⟩

/-! ### structs and arrays that are built -/
def placeOf (P : Program) (t : TypeId) (i : Nat) : Option (Nat × Nat) :=
  match P.underlying t with
  | some (.struct fs) => match fs[i]? with
    | some f => (tySz P f.type).map (fun n => (f.offset, n))
    | none => none
  | some (.array _ e) => (tySz P e).map (fun n => (i * n, n))
  | _ => none

/-- Parts are laid into cells, each at its place. -/
def Fill (place : Nat → Option (Nat × Nat)) : List PV → List (Nat × PV) → List PV → Prop
  | cs, [], r => cs = r
  | cs, (i, p) :: rest, r => ∃ off n, place i = some (off, n) ∧ stor p = true ∧ (cellsOf p).length = n ∧ off + n ≤ cs.length ∧ Fill place (splice cs off (cellsOf p)) rest r

theorem foldl_set {vs : List Value} : ∀ {cells : Array Value} {off j : Nat}, off + j + vs.length ≤ cells.size → ∀ i,
    ((vs.zipIdx j).foldl (fun cs (x : Value × Nat) => cs.setIfInBounds (off + x.2) x.1) cells)[i]? = if off + j ≤ i ∧ i < off + j + vs.length then vs[i - (off + j)]? else cells[i]? := by
  induction vs with
  | nil => intro cells off j _ i; simp; omega
  | cons v vs ih =>
    intro cells off j h i
    simp only [List.zipIdx_cons, List.foldl_cons]
    rw [ih (by simp at h ⊢; omega)]
    simp only [List.length_cons] at h ⊢
    by_cases h1 : off + (j + 1) ≤ i ∧ i < off + (j + 1) + vs.length
    · rw [if_pos h1, if_pos (by omega)]
      have : i - (off + j) = (i - (off + (j + 1))) + 1 := by omega
      rw [this]; rfl
    · rw [if_neg h1]
      by_cases h2 : i = off + j
      · subst h2
        rw [if_pos (by omega), Array.getElem?_setIfInBounds_self_of_lt (by omega)]
        simp
      · rw [if_neg (by omega), Array.getElem?_setIfInBounds_ne (by omega)]

theorem foldl_size {vs : List (Value × Nat)} {off : Nat} : ∀ {cells : Array Value}, (vs.foldl (fun cs (x : Value × Nat) => cs.setIfInBounds (off + x.2) x.1) cells).size = cells.size := by
  induction vs with
  | nil => intro _; rfl
  | cons v vs ih => intro cells; rw [List.foldl_cons, ih]; simp

theorem splice_get (cs ps : List PV) (off i : Nat) (h : off + ps.length ≤ cs.length) :
    (splice cs off ps)[i]? = if off ≤ i ∧ i < off + ps.length then ps[i - off]? else cs[i]? := by
  unfold splice
  have hl : (cs.take off).length = off := by simp; omega
  by_cases h1 : i < off
  · rw [if_neg (by omega), List.append_assoc, List.getElem?_append_left (by omega), List.getElem?_take, if_pos h1]
  · by_cases h2 : i < off + ps.length
    · rw [if_pos (by omega), List.append_assoc, List.getElem?_append_right (by omega), hl, List.getElem?_append_left (by omega)]
    · rw [if_neg (by omega), List.getElem?_append_right (by simp; omega), List.getElem?_drop]
      congr 1
      simp; omega

theorem run_fill {w : World} {c : Cx} {place : Nat → Option (Nat × Nat)} : ∀ {parts : List (Nat × PV)} {vals : List (Nat × Value)} {cs r : List PV} {cells : Array Value},
    Fill place cs parts r → cells.size = cs.length → Leafs cs → VRs w c cs (fun i => cells[i]?) →
    vals.length = parts.length → (∀ (k i : Nat) (p : PV), parts[k]? = some (i, p) → ∃ v, vals[k]? = some (i, v) ∧ VR w c p v) →
    ∃ out, Instr.fill place cells vals = some out ∧ out.size = r.length ∧ Leafs r ∧ VRs w c r (fun i => out[i]?)
  | [], [], cs, r, cells, hf, hs, hl, hv, _, _ => by
    simp only [Fill] at hf; subst hf
    exact ⟨cells, rfl, hs, hl, hv⟩
  | (i, p) :: parts, x :: vals, cs, r, cells, hf, hs, hl, hv, hlen, hp => by
    obtain ⟨off, n, h1, h2, h3, h4, h5⟩ := hf
    obtain ⟨v, hx, hvp⟩ := hp 0 i p rfl
    simp at hx
    subst hx
    obtain ⟨g1, g2, g3⟩ := cells_rel h2 hvp
    obtain ⟨out, e1, e2⟩ := run_fill (parts := parts) (vals := vals)
      (cells := v.cells.zipIdx.foldl (fun cs (x : Value × Nat) => cs.setIfInBounds (off + x.2) x.1) cells) h5
      (by rw [splice_length _ _ _ (by omega), ← hs]
          rw [← Array.foldl_toList, Array.toList_zipIdx]
          exact foldl_size)
      (fun q hq => by
        simp only [splice, List.mem_append] at hq
        rcases hq with (hq | hq) | hq
        · exact hl q (List.mem_of_mem_take hq)
        · exact g2 q hq
        · exact hl q (List.mem_of_mem_drop hq))
      (VRs_mk fun j q hq => by
        rw [splice_get _ _ _ _ (by omega)] at hq
        rw [← Array.foldl_toList, Array.toList_zipIdx]
        have := foldl_set (vs := v.cells.toList) (cells := cells) (off := off) (j := 0) (by simp; omega) j
        simp only [Nat.add_zero, Array.length_toList, Array.getElem?_toList] at this
        rw [this, g1]
        split at hq
        · rename_i hj; rw [if_pos hj]; exact VRs_get g3 hq
        · rename_i hj; rw [if_neg hj]; exact VRs_get hv hq)
      (by simpa using hlen) (fun k i' p' hk => by
        obtain ⟨v', h6, h7⟩ := hp (k + 1) i' p' (by simpa using hk)
        exact ⟨v', by simpa using h6, h7⟩)
    refine ⟨out, ?_, e2⟩
    unfold Instr.fill
    simp only [h1]
    rw [if_neg (by simp; omega)]
    exact e1
  | [], _ :: _, _, _, _, _, _, _, _, h, _ => by simp at h
  | _ :: _, [], _, _, _, _, _, _, _, h, _ => by simp at h

theorem run_mapM_places {P : Program} {w : World} (fs : List Field) (h : ∀ f, f ∈ fs → ∃ n, tySz P f.type = some n) :
    (fs.mapM (fun f => do pure (f.offset, ← sizeOf f.type) : Field → Sem (Nat × Nat))).run P w = .ok (fs.map fun f => (f.offset, (tySz P f.type).getD 0)) w := by
  induction fs with
  | nil => rfl
  | cons f fs ih =>
    obtain ⟨n, hn⟩ := h f (by simp)
    rw [List.mapM_cons]
    simp only [Sem.run_bind, run_sizeOf hn, Result.andThen_ok, Sem.run_pure, ih (fun g hg => h g (by simp [hg]))]
    simp [hn]

/-- all the fields' types are known -/
def fldsOk (P : Program) (t : TypeId) : Bool :=
  match P.underlying t with
  | some (.struct fs) => fs.toList.all fun f => (tySz P f.type).isSome
  | some (.array _ e) => (tySz P e).isSome
  | _ => false

theorem q_build {P : Program} {o : Oper} {σ : AS} {t : TypeId} {parts : Array (Nat × Operand)} {z r : List PV} {ps : List (Nat × PV)} (ho : o.op = .build t parts)
    (hz : zeroPV P t = some z) (hzl : Leafs z) (hk : fldsOk P t = true) (hps : parts.toList.map (fun x => (x.1, σ.eval x.2)) = ps) (hf : Fill (placeOf P t) z ps r) :
    QStep P o σ (.agg r) :=
  q_run fun w c act hr => by
    obtain ⟨zv, hzr, hzs, hzv⟩ := run_zeroValue (w := w) hz
    have hvals : (parts.map fun (x : Nat × Operand) => (x.1, act.eval x.2)).toList.length = ps.length := by rw [← hps]; simp
    have hrel : ∀ (k i : Nat) (p : PV), ps[k]? = some (i, p) → ∃ v, (parts.map fun (x : Nat × Operand) => (x.1, act.eval x.2)).toList[k]? = some (i, v) ∧ VR w c p v := by
      intro k i p hp
      rw [← hps, List.getElem?_map] at hp
      cases hx : parts.toList[k]? with
      | none => rw [hx] at hp; cases hp
      | some x =>
        rw [hx] at hp
        simp at hp
        obtain ⟨rfl, rfl⟩ := hp
        exact ⟨act.eval x.2, by rw [Array.toList_map, List.getElem?_map, hx]; rfl, hr.2.eval x.2⟩
    have key : ∃ out, (Instr.build t (parts.map fun (x : Nat × Operand) => (x.1, act.eval x.2))).run P w = .ok (.agg out) w ∧ out.size = r.length ∧ Leafs r ∧ VRs w c r (fun i => out[i]?) := by
      unfold Instr.build
      unfold fldsOk at hk
      cases hu : P.underlying t with
      | none => rw [hu] at hk; cases hk
      | some d =>
        rw [hu] at hk
        cases d <;> simp only [Bool.false_eq_true] at hk
        · rename_i n e
          obtain ⟨sz, hse⟩ := Option.isSome_iff_exists.1 hk
          obtain ⟨out, e1, e2⟩ := run_fill hf hzs hzl (hzv c) hvals hrel
          refine ⟨out, ?_, e2⟩
          have hpl : placeOf P t = fun i => some (i * sz, sz) := by funext i; simp [placeOf, hu, hse]
          rw [hpl] at e1
          simp only [Sem.run_bind, hzr, Result.andThen_ok, run_underlying hu, run_sizeOf hse, e1]
          rfl
        · rename_i fs
          have hall : ∀ f, f ∈ fs.toList → ∃ n, tySz P f.type = some n := fun f hf' => by
            have := List.all_eq_true.1 hk f hf'
            exact Option.isSome_iff_exists.1 this
          obtain ⟨out, e1, e2⟩ := run_fill hf hzs hzl (hzv c) hvals hrel
          refine ⟨out, ?_, e2⟩
          have hpl : placeOf P t = fun i => (fs.toList.map fun f => (f.offset, (tySz P f.type).getD 0))[i]? := by
            funext i
            simp only [placeOf, hu, List.getElem?_map, Array.getElem?_toList]
            cases hi : fs[i]? with
            | none => rfl
            | some f =>
              obtain ⟨n, hn⟩ := hall f (Array.mem_toList_iff.2 (Array.mem_of_getElem? hi))
              simp [hn]
          rw [hpl] at e1
          have hm : (fs.mapM fun f => do pure (f.offset, ← sizeOf f.type) : Sem (Array (Nat × Nat))).run P w = .ok (fs.toList.map fun f => (f.offset, (tySz P f.type).getD 0)).toArray w := by
            rw [Array.mapM_eq_mapM_toList]
            rw [Sem.run_map, run_mapM_places _ hall]
            rfl
          simp only [Sem.run_bind, hzr, Result.andThen_ok, run_underlying hu, hm]
          have : (fun x => (fs.toList.map fun f => (f.offset, (tySz P f.type).getD 0)).toArray[x]?) = fun (i : Nat) => (fs.toList.map fun f => (f.offset, (tySz P f.type).getD 0))[i]? := by
            funext i; simp
          rw [this, e1]
          rfl
    obtain ⟨out, h1, h2, h3, h4⟩ := key
    refine ⟨.agg out, ?_, ?_⟩
    · simp only [execOp, ho, Sem.run_bind, h1, Result.andThen_ok]; rfl
    · simp only [VR]; exact ⟨out, rfl, h2, h3, h4⟩

/-! ### slices that are written out -/
theorem run_buildSlice {P : Program} {w : World} {c : Cx} {t e : TypeId} {n len : Nat} {parts : List (Nat × Value)} {ps : List (Nat × PV)} {z zs r : List PV}
    (ht : P.underlying t = some (.slice e)) (hs : tySz P e = some n) (hn : n ≠ 0) (hl0 : len ≠ 0) (hz : zeroPV P e = some z) (hzn : z.length = n) (hzl : Leafs z)
    (hzs : zs = (List.replicate len z).flatten) (hmax : len * n ≤ 2 ^ 24) (hf : Fill (fun i => some (i * n, n)) zs ps r)
    (hlen : parts.length = ps.length) (hp : ∀ (k i : Nat) (p : PV), ps[k]? = some (i, p) → ∃ v, parts[k]? = some (i, v) ∧ VR w c p v) :
    ∃ vs : Array Value, (Instr.buildSlice t len parts.toArray).run P w = .ok (.slice (some ⟨w.heap.size, 0, none⟩) len len) (grow w (.cells vs e (0, 0))) ∧
      vs.size = r.length ∧ Leafs r ∧ VRs w c r (fun i => vs[i]?) := by
  obtain ⟨zv, hzr, hzs', hzv⟩ := run_zeroValue (w := w) hz
  have hlz : zs.length = len * n := by rw [hzs]; simp [hzn]
  have hzlf : Leafs zs := fun q hq => by
    rw [hzs, List.mem_flatten] at hq
    obtain ⟨l, hl, hq⟩ := hq
    rw [List.mem_replicate] at hl
    exact hzl q (hl.2 ▸ hq)
  have hcell : VRs w c zs (fun i => ((Array.range (len * n)).map (fun j => zv.cells[j % zv.cells.size]!))[i]?) := VRs_mk fun i p hp => by
    have hi : i < len * n := by rw [← hlz]; exact (List.getElem?_eq_some_iff.1 hp).1
    have hpos : 0 < n := Nat.pos_of_ne_zero hn
    have hmod : i % n < z.length := by rw [hzn]; exact Nat.mod_lt _ hpos
    have hget : zs[i]? = z[i % n]? := by
      rw [hzs]
      clear hp hzlf hlz hzs hf hmax hl0 hmod
      induction len generalizing i with
      | zero => omega
      | succ len ih =>
        rw [List.replicate_succ, List.flatten_cons]
        by_cases hlt : i < n
        · rw [List.getElem?_append_left (by omega), Nat.mod_eq_of_lt hlt]
        · rw [List.getElem?_append_right (by omega), hzn, ih (i - n) (by rw [Nat.succ_mul] at hi; omega), ← Nat.mod_eq_sub_mod (by omega)]
    rw [hget] at hp
    obtain ⟨v, h1, h2⟩ := VRs_get (hzv c) hp
    refine ⟨v, ?_, h2⟩
    have hsz : zv.cells.size = n := by rw [hzs', hzn]
    simp [hi, hsz]
    rw [getElem!_def, h1]
  obtain ⟨out, e1, e2, e3, e4⟩ := run_fill hf (by simp [hlz]) hzlf hcell hlen hp
  refine ⟨out, ?_, e2, e3, e4⟩
  unfold Instr.buildSlice
  simp only [Sem.run_bind, run_underlying ht, Result.andThen_ok, run_sizeOf hs]
  rw [if_neg (by omega)]
  have hne : len * n ≠ 0 := Nat.mul_ne_zero hl0 hn
  simp only [Sem.run_pure, Result.andThen_ok, if_neg hne, Sem.run_bind, hzr, e1]
  rfl

theorem q_buildSlice {P : Program} {o : Oper} {σ : AS} {t e : TypeId} {len n : Nat} {parts : Array (Nat × Operand)} {z zs r : List PV} {ps : List (Nat × PV)}
    (ho : o.op = .buildSlice t len parts) (ht : P.underlying t = some (.slice e)) (hs : tySz P e = some n) (hn : n ≠ 0) (hl0 : len ≠ 0) (hz : zeroPV P e = some z) (hzn : z.length = n) (hzl : Leafs z)
    (hzs : zs = (List.replicate len z).flatten) (hmax : len * n ≤ 2 ^ 24) (hps : parts.toList.map (fun x => (x.1, σ.eval x.2)) = ps) (hf : Fill (fun i => some (i * n, n)) zs ps r) :
    QStep P o σ (.tr len r .full) := by
  intro c a w K Q hr hK
  have hvals : (parts.map fun (x : Nat × Operand) => (x.1, a.eval x.2)).toList.length = ps.length := by rw [← hps]; simp
  have hrel : ∀ (k i : Nat) (p : PV), ps[k]? = some (i, p) → ∃ v, (parts.map fun (x : Nat × Operand) => (x.1, a.eval x.2)).toList[k]? = some (i, v) ∧ VR w c p v := by
    intro k i p hp
    rw [← hps, List.getElem?_map] at hp
    cases hx : parts.toList[k]? with
    | none => rw [hx] at hp; cases hp
    | some x =>
      rw [hx] at hp
      simp at hp
      obtain ⟨rfl, rfl⟩ := hp
      exact ⟨a.eval x.2, by rw [Array.toList_map, List.getElem?_map, hx]; rfl, hr.2.eval x.2⟩
  obtain ⟨vs, h1, h2, h3, h4⟩ := run_buildSlice ht hs hn hl0 hz hzn hzl hzs hmax hf hvals hrel
  obtain ⟨g, x⟩ := quiet_new hr.1 (.cells vs e (0, 0))
  refine wp_value (v := .slice (some ⟨w.heap.size, 0, none⟩) len len) (w' := grow w (.cells vs e (0, 0))) ?_ (hK _ _ ?_ g x)
  · have h1' : (Instr.buildSlice t len (parts.map fun (x : Nat × Operand) => (x.1, a.eval x.2))).run P w =
        .ok (.slice (some ⟨w.heap.size, 0, none⟩) len len) (grow w (.cells vs e (0, 0))) := by have h1' := h1; rwa [Array.toArray_toList] at h1'
    simp only [execOp, ho, Sem.run_bind, h1', Result.andThen_ok]
    rfl
  · simp only [VR]
    refine .inr ⟨_, len, rfl, Nat.le_refl _, Foot.new hr.1 (by simp [grow]) _ _ _ rfl, rfl, h3, VRs.ext x r (fun i _ v hv => ?_) h4⟩
    show (grow w _).cell? ⟨w.heap.size, 0 + i, none⟩ = some v
    rw [cell_row (grow_new w _), Nat.zero_add]; exact hv

/-! ### variables -/
theorem step_box {P : Program} {o : Oper} {σ : AS} {t : TypeId} {x : Operand} {p : PV} {N : AS → Prop} (ho : o.op = .box t x) (hx : σ.eval x = p) (hs : stor p = true)
    (hN : N { σ with slots := match o.dst with | some d => (d, .ptr σ.H.length 0) :: σ.slots | none => σ.slots, H := σ.H ++ [.row (cellsOf p) t] }) : Step P o σ N := by
  intro c a w K Q hr hK
  have hv := hr.2.eval x
  rw [hx] at hv
  obtain ⟨h1, h2, h3⟩ := cells_rel hs hv
  obtain ⟨g, e⟩ := alloc_row (e := t) (fr := (0, 0)) hr.1 h1 (nofz_zero _) h2 h3
  refine wp_value (v := .pointer (some ⟨w.heap.size, 0, none⟩)) (w' := grow w (.cells (a.eval x).cells t)) ?_ (hK _ _ _ _ hN ⟨g, ?_⟩ e (Act.put_defers' _ _ _))
  · simp only [execOp, ho, Instr.box, newVar, newRow, Sem.run_bind, run_newObj, Result.andThen_ok, Sem.run_pure]; rfl
  · have hs' := (hr.2.ext e).put o.dst (p := .ptr σ.H.length 0) (v := .pointer (some ⟨w.heap.size, 0, none⟩))
      (by simp only [VR]; exact ⟨w.heap.size, by rw [← hr.1.len]; simp, rfl⟩)
    cases hd : o.dst with
    | none => rw [hd] at hs'; exact hs'
    | some d => rw [hd] at hs'; exact hs'

theorem step_alloc {P : Program} {o : Oper} {σ : AS} {t : TypeId} {z : List PV} {N : AS → Prop} (ho : o.op = .alloc t) (hz : zeroPV P t = some z) (hzl : Leafs z)
    (hN : N { σ with slots := match o.dst with | some d => (d, .ptr σ.H.length 0) :: σ.slots | none => σ.slots, H := σ.H ++ [.row z t] }) : Step P o σ N := by
  intro c a w K Q hr hK
  obtain ⟨zv, h1, h2, h3⟩ := run_zeroValue (w := w) hz
  obtain ⟨g, e⟩ := alloc_row (e := t) (fr := (0, 0)) hr.1 h2 (nofz_zero _) hzl (h3 c)
  refine wp_value (v := .pointer (some ⟨w.heap.size, 0, none⟩)) (w' := grow w (.cells zv.cells t)) ?_ (hK _ _ _ _ hN ⟨g, ?_⟩ e (Act.put_defers' _ _ _))
  · simp only [execOp, ho, Instr.alloc, newVar, newRow, Sem.run_bind, h1, run_newObj, Result.andThen_ok, Sem.run_pure]; rfl
  · have hs' := (hr.2.ext e).put o.dst (p := .ptr σ.H.length 0) (v := .pointer (some ⟨w.heap.size, 0, none⟩))
      (by simp only [VR]; exact ⟨w.heap.size, by rw [← hr.1.len]; simp, rfl⟩)
    cases hd : o.dst with
    | none => rw [hd] at hs'; exact hs'
    | some d => rw [hd] at hs'; exact hs'

theorem step_store {P : Program} {o : Oper} {σ : AS} {t e : TypeId} {x y : Operand} {b off n : Nat} {cs : List PV} {p : PV} {N : AS → Prop} (ho : o.op = .store t x y) (hd : o.dst = none)
    (hn : tySz P t = some n) (hx : σ.eval x = .ptr b off) (hy : σ.eval y = p) (hs : stor p = true) (hl : (cellsOf p).length = n) (hb : σ.H[b]? = some (.row cs e))
    (hlen : off + n ≤ cs.length) (hN : N { σ with H := σ.H.set b (.row (splice cs off (cellsOf p)) e) }) : Step P o σ N := by
  intro c a w K Q hr hK
  have hv := hr.2.eval y
  rw [hy] at hv
  obtain ⟨h1, h2, h3⟩ := cells_rel hs hv
  have hpx := hr.2.eval x
  rw [hx] at hpx
  simp only [VR] at hpx
  obtain ⟨k, hk, ex⟩ := hpx
  obtain ⟨w', hw', g, ext⟩ := run_storeCells_row (P := P) (a.eval y).cells.toList (cellsOf p) (off := off) (i := 0) hr.1 hb hk (by simpa using h1) (by rw [hl]; simpa using hlen) h2 (by simpa using h3)
  refine wp_skip' (w' := w') ?_ (hK _ _ _ _ hN ⟨by simpa using g, ?_⟩ ext (by rw [hd]; rfl))
  · simp only [execOp, ho, Instr.storeAt, ex, Instr.sureAddr, Sem.run_bind, Sem.run_pure, Result.andThen_ok, storeVar, run_sizeOf hn]
    rw [if_neg (by rw [h1, hl]; simp)]
    rw [hw']; rfl
  · rw [hd]; exact hr.2.ext ext

/-! ### literals of a slice: all elements given, in order -/
theorem fill_row {n : Nat} : ∀ (ps : List PV) (i : Nat) (done rest : List PV), done.length = i * n → rest.length = ps.length * n → (∀ p, p ∈ ps → stor p = true ∧ (cellsOf p).length = n) →
    Fill (fun i => some (i * n, n)) (done ++ rest) ((ps.zipIdx i).map fun x => (x.2, x.1)) (done ++ ps.flatMap cellsOf)
  | [], i, done, rest, _, hr, _ => by
    simp at hr
    subst hr
    simp [Fill]
  | p :: ps, i, done, rest, hd, hr, h => by
    obtain ⟨h1, h2⟩ := h p (by simp)
    simp only [List.length_cons, Nat.add_mul, Nat.one_mul] at hr
    simp only [List.zipIdx_cons, List.map_cons, Fill]
    refine ⟨i * n, n, rfl, h1, h2, by simp; omega, ?_⟩
    have e : splice (done ++ rest) (i * n) (cellsOf p) = (done ++ cellsOf p) ++ rest.drop n := by
      unfold splice
      rw [List.take_append_of_le_length (by omega), List.take_of_length_le (by omega), List.drop_append, List.drop_eq_nil_of_le (by omega)]
      have : i * n + (cellsOf p).length - done.length = n := by omega
      rw [this]; simp
    rw [e]
    have := fill_row ps (i + 1) (done ++ cellsOf p) (rest.drop n) (by simp [hd, h2, Nat.add_mul]) (by simp; omega) (fun q hq => h q (by simp [hq]))
    simpa using this

theorem q_lit {P : Program} {o : Oper} {σ : AS} {t e : TypeId} {len n : Nat} {parts : Array (Nat × Operand)} {z : List PV} {ps : List PV}
    (ho : o.op = .buildSlice t len parts) (ht : P.underlying t = some (.slice e)) (hs : tySz P e = some n) (hn : n ≠ 0) (hl0 : len ≠ 0) (hz : zeroPV P e = some z) (hzn : z.length = n) (hzl : Leafs z)
    (hmax : len * n ≤ 2 ^ 24) (hlen : ps.length = len) (hps : parts.toList.map (fun x => (x.1, σ.eval x.2)) = (ps.zipIdx 0).map fun x => (x.2, x.1)) (hp : ∀ p, p ∈ ps → stor p = true ∧ (cellsOf p).length = n) :
    QStep P o σ (.tr len (ps.flatMap cellsOf) .full) := by
  refine q_buildSlice ho ht hs hn hl0 hz hzn hzl rfl hmax hps ?_
  have := fill_row ps 0 [] (List.replicate len z).flatten (by simp) (by simp [hzn, hlen]) hp
  simpa using this

theorem step_store' {P : Program} {o : Oper} {σ : AS} {t e : TypeId} {x y : Operand} {b off n : Nat} {cs : List PV} {p : PV} {N : AS → Prop} {q : List PV} (ho : o.op = .store t x y) (hd : o.dst = none)
    (hn : tySz P t = some n) (hx : σ.eval x = .ptr b off) (hy : σ.eval y = p) (hs : stor p = true) (hl : (cellsOf p).length = n) (hb : σ.H[b]? = some (.row cs e))
    (hlen : off + n ≤ cs.length) (hq : splice cs off (cellsOf p) = q) (hN : N { σ with H := σ.H.set b (.row q e) }) : Step P o σ N :=
  step_store ho hd hn hx hy hs hl hb hlen (by rw [hq]; exact hN)

theorem splice_all {cs ps : List PV} {n : Nat} (h1 : cs.length = n) (h2 : ps.length = n) : splice cs 0 ps = ps := by
  unfold splice
  simp [h1, h2]

end Go.Ab
