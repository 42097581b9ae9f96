/- An abstract calculus over the model's weakest preconditions, part 10: append. -/
import Derived.Test.YtfjikgkcleefiaaDoorAb9
namespace Go.Ab

/-- Values are stored into a block. -/
theorem run_storeCells_block {P : Program} : ∀ (us : List Value) {w : World} {k off i : Nat} {vs : Array Value} {e : TypeId} {fr : Nat × Nat},
    w.heap[k]? = some (.cells vs e fr) → nofz fr vs.size → off + i + us.length ≤ vs.size → (∀ u, u ∈ us → u.oneCell' = true) →
    ∃ w' vs', (storeCells ⟨k, off, none⟩ us i).run P w = .ok () w' ∧ w'.heap[k]? = some (.cells vs' e fr) ∧ vs'.size = vs.size ∧
      (∀ j : Nat, vs'[j]? = if off + i ≤ j ∧ j < off + i + us.length then us[j - (off + i)]? else vs[j]?) ∧ (∀ k' : Nat, k' ≠ k → w'.heap[k']? = w.heap[k']?) ∧
      w'.heap.size = w.heap.size ∧ w'.os = w.os ∧ w'.tape = w.tape ∧ w'.output = w.output
  | [], w, k, off, i, vs, e, fr, h, _, _, _ => ⟨w, vs, rfl, h, rfl, fun j => by rw [if_neg (by simp only [List.length_nil]; omega)], fun _ _ => rfl, rfl, rfl, rfl, rfl⟩
  | u :: us, w, k, off, i, vs, e, fr, h, hf, hlen, ho => by
    simp only [List.length_cons] at hlen
    have hlt : off + i < vs.size := by omega
    have h2 := set_block w k (off + i) u h
    obtain ⟨w', vs', h3, h4, h5, h6, h7, h8, h9⟩ := run_storeCells_block us (w := w.setCell ⟨k, off + i, none⟩ u) (i := i + 1) (off := off) h2 (by simpa using hf) (by simp; omega) (fun u hu => ho u (by simp [hu]))
    refine ⟨w', vs', ?_, h4, by simpa using h5, fun j => ?_, fun k' hk => (h7 k' hk).trans (set_other w k _ k' u hk), by rw [h8, set_size], h9⟩
    · have hone := ho u (by simp)
      have hcell : w.cell? ⟨k, off + i, none⟩ = some vs[off + i] := by rw [cell_row h]; simp [hlt]
      have hfr : w.frozen? ⟨k, off + i, none⟩ = false := by
        simp only [World.frozen?, h]
        simpa using hf (off + i) hlt
      unfold storeCells
      rw [addr_add, Sem.run_bind]
      have hst : (store ⟨k, off + i, none⟩ u : Sem Unit).run P w = .ok () (w.setCell ⟨k, off + i, none⟩ u) := by
        unfold store
        cases u <;> simp only [Value.oneCell'] at hone <;> first | (cases hone; done) | (simp only [Sem.run, hcell, hfr]; rfl)
      rw [hst]
      exact h3
    · rw [h6 j]
      simp only [List.length_cons]
      by_cases h1 : off + (i + 1) ≤ j ∧ j < off + (i + 1) + us.length
      · rw [if_pos h1, if_pos (by omega)]
        have : j - (off + i) = (j - (off + (i + 1))) + 1 := by omega
        rw [this]; rfl
      · rw [if_neg h1]
        by_cases h2 : j = off + i
        · subst h2
          rw [if_pos (by omega), Array.getElem?_setIfInBounds_self_of_lt hlt]; simp
        · rw [if_neg (by omega), Array.getElem?_setIfInBounds_ne (by omega)]

/-- a slice that may be appended to -/
def AppOK (tl : Tail) (ts : List Bool) (sz : Nat) : Prop := tl = .full ∨ ∃ i, tl = .tok i sz ∧ ts[i]? = some true

/-- other slices may still be appended to -/
def Keeps (tl : Tail) (ts : List Bool) (tl' : Tail) (ts' : List Bool) : Prop :=
  ∀ j sz, ts[j]? = some true → (∀ s, tl ≠ .tok j s) → AppOK (.tok j sz) ts' sz ∧ ∀ s, tl' ≠ .tok j s

/-- what is appended: how many, and their cells -/
def SrcOK (P : Program) (σ : AS) (y : Operand) (m sz : Nat) (news : List PV) : Prop :=
  news.length = m * sz ∧ Leafs news ∧ ∀ w c (a : Act), RelC w c σ a → (Builtin.lenOf (a.eval y)).run P w = .ok m w ∧
    ∃ us : Array Value, (∀ n, (Builtin.firstCells sz m (a.eval y)).run P { w with drawn := n } = .ok us { w with drawn := n }) ∧ us.size = m * sz ∧ VRs w c news (fun i => us[i]?)

theorem read_fz {P : Program} {w : World} {c : Cx} {a : Addr} (cs : List PV) (hf : Foot w c a cs.length) (h : VRs w c cs (fun i => w.cell? ⟨a.block, a.off + i, none⟩)) :
    ∃ us : Array Value, (∀ n, (loadCells a cs.length).run P { w with drawn := n } = .ok us { w with drawn := n }) ∧ us.size = cs.length ∧ VRs w c cs (fun i => us[i]?) := by
  have h' := fz_cells hf h
  refine ⟨((List.range cs.length).map (fun i => (w.cell? (a.add i)).getD undef)).toArray, fun n => ?_, by simp, VRs_mk fun i p hp => ?_⟩
  · refine run_loadCells { w with drawn := n } a cs.length _ (fun i hi => ?_)
    obtain ⟨v, h1, _⟩ := VRs_get h' (List.getElem?_eq_getElem hi)
    have : ({ w with drawn := n } : World).cell? (a.add i) = w.cell? (a.add i) := rfl
    rw [this, h1]; rfl
  · have hi := (List.getElem?_eq_some_iff.1 hp).1
    obtain ⟨v, h1, h2⟩ := VRs_get h' hp
    exact ⟨v, by simp [hi, h1], h2⟩

theorem src_tr {P : Program} {σ : AS} {y : Operand} {m sz : Nat} {news : List PV} {tl : Tail} (hy : σ.eval y = .tr m news tl) (hl : news.length = m * sz) (hlf : Leafs news) :
    SrcOK P σ y m sz news := by
  refine ⟨hl, hlf, fun w c a hr => ?_⟩
  have hv := hr.2.eval y
  rw [hy] at hv
  simp only [VR] at hv
  rcases hv with ⟨h1, h2, h3, _⟩ | ⟨ad, cap, h1, _, hf, _, _, hc⟩
  · subst h2; subst h3
    rw [h1]
    exact ⟨rfl, #[], fun n => rfl, by simp, by simp only [VRs]⟩
  · rw [h1]
    refine ⟨rfl, ?_⟩
    obtain ⟨us, h4, h5, h6⟩ := read_fz (P := P) news hf hc
    refine ⟨us, fun n => ?_, by rw [h5, hl], h6⟩
    show (loadCells ad (m * sz)).run P _ = _
    rw [← hl]; exact h4 n

theorem src_str {P : Program} {σ : AS} {y : Operand} {s : ByteArray} (hy : σ.eval y = .val (.string s)) :
    SrcOK P σ y s.size 1 (s.data.toList.map fun b => .val (.int .u8 b.toNat)) := by
  refine ⟨by simp, fun p hp => ?_, fun w c a hr => ?_⟩
  · simp at hp; obtain ⟨b, _, rfl⟩ := hp; rfl
  · have e := eval_val hr.2 hy
    rw [e]
    refine ⟨rfl, (s.data.map fun b => .int .u8 b.toNat), fun n => ?_, by simp, VRs_mk fun i p hp => ?_⟩
    · show Result.ok _ _ = _
      congr 2
      have : (s.extract 0 s.size) = s := by
        apply ByteArray.ext; simp
      rw [this]
    · rw [List.getElem?_map] at hp
      cases hx : s.data.toList[i]? with
      | none => rw [hx] at hp; cases hp
      | some b =>
        rw [hx] at hp; simp at hp; subst hp
        exact ⟨.int .u8 b.toNat, by simp at hx; simp [hx], VR_val rfl⟩

theorem growBy_le (need : Nat) (h : 256 ≤ need) : ∀ (r c : Nat), c ≤ 2 * need → Builtin.growBy need r c ≤ 2 * need
  | 0, c, hc => hc
  | r + 1, c, hc => by
    unfold Builtin.growBy
    split
    · exact hc
    · exact growBy_le need h r _ (by omega)

theorem nextcap_le (need cap : Nat) (h : cap < need) : Builtin.nextslicecap need cap ≤ 2 * need := by
  unfold Builtin.nextslicecap
  split
  · omega
  · split
    · omega
    · exact growBy_le need (by omega) 4 cap (by omega)

/-- the type's facts that append asks for -/
structure ElemT (P : Program) (e : TypeId) (sz nb : Nat) : Prop where
  size : tySz P e = some sz
  bytes : (P.info? e).map (·.bytes) = some nb
  pos : nb ≠ 0
  zero : ∃ z, zeroPV P e = some z ∧ z.length = sz

theorem ElemT.info {P : Program} {e : TypeId} {sz bytes : Nat} (h : ElemT P e sz bytes) (w : World) : ∃ i, (typeInfo e).run P w = .ok i w ∧ i.bytes = bytes := by
  have := h.bytes
  cases hi : P.info? e with
  | none => rw [hi] at this; cases this
  | some i => rw [hi] at this; simp at this; exact ⟨i, by simp [typeInfo, hi], this⟩

/-- a second type of an append: a slice's or a string's -/
def srcTy (P : Program) (t : TypeId) : Bool :=
  match P.underlying t with
  | some (.slice _) | some .string => true
  | _ => false

theorem srcTy_or {P : Program} {t : TypeId} (h : srcTy P t = true) : (∃ e, P.underlying t = some (.slice e)) ∨ P.underlying t = some .string := by
  unfold srcTy at h
  cases hu : P.underlying t with
  | none => rw [hu] at h; cases h
  | some d =>
    rw [hu] at h
    cases d <;> simp at h
    · exact .inr rfl
    · exact .inl ⟨_, rfl⟩

/-- the run of an append that has room -/
theorem run_append_room {P : Program} {w w' : World} {t t2 e : TypeId} {a : Addr} {len cap m sz : Nat} {x : Value} {us : Array Value}
    (ht : P.underlying t = some (.slice e)) (hs : tySz P e = some sz) (ht2 : srcTy P t2 = true) (hl : (Builtin.lenOf x).run P w = .ok m w)
    (hc : (Builtin.firstCells sz m x).run P w = .ok us w) (hroom : len + m ≤ cap) (hst : (storeCells (a.add (len * sz)) us.toList).run P w = .ok () w') (ty : TypeId) :
    (Builtin.append_ #[t, t2] ty #[.slice (some a) len cap, x]).run P w = .ok (.slice (some a) (len + m) cap) w' := by
  unfold Builtin.append_
  simp only [List.getElem?_toArray, List.getElem?_cons_zero, List.getElem?_cons_succ]
  rcases srcTy_or ht2 with ⟨e2, hd⟩ | hd
  all_goals
    simp only [Sem.run_bind, run_underlying ht, run_sizeOf hs, Result.andThen_ok, run_underlying hd, Sem.run_pure, Bool.false_eq_true, if_false, hl, if_pos hroom, Bool.not_false,
      if_true, hc, hst]

theorem run_append_keep {P : Program} {w : World} {t t2 e : TypeId} {b : Option Addr} {len cap sz : Nat} {x : Value} {us : Array Value}
    (ht : P.underlying t = some (.slice e)) (hs : tySz P e = some sz) (ht2 : srcTy P t2 = true) (hl : (Builtin.lenOf x).run P w = .ok 0 w)
    (hc : (Builtin.firstCells sz 0 x).run P w = .ok us w) (hu : us.size = 0) (hroom : len ≤ cap) (ty : TypeId) :
    (Builtin.append_ #[t, t2] ty #[.slice b len cap, x]).run P w = .ok (.slice b len cap) w := by
  have hu' : us = #[] := Array.eq_empty_of_size_eq_zero hu
  subst hu'
  unfold Builtin.append_
  simp only [List.getElem?_toArray, List.getElem?_cons_zero, List.getElem?_cons_succ]
  rcases srcTy_or ht2 with ⟨e2, hd⟩ | hd
  all_goals
    simp only [Sem.run_bind, run_underlying ht, run_sizeOf hs, Result.andThen_ok, run_underlying hd, Sem.run_pure, Bool.false_eq_true, if_false, hl, Nat.add_zero, if_pos hroom,
      Bool.not_false, if_true, hc]
    cases b with
    | none => rfl
    | some a => rfl

/-- the run of an append that grows -/
theorem run_append_grow {P : Program} {w : World} {t t2 e : TypeId} {b : Option Addr} {len cap m sz bytes : Nat} {x : Value} {us os : Array Value}
    (ht : P.underlying t = some (.slice e)) (he : ElemT P e sz bytes) (ht2 : srcTy P t2 = true) (hl : (Builtin.lenOf x).run P w = .ok m w)
    (hold : ∀ n, (Builtin.firstCells sz len (.slice b len cap)).run P { w with drawn := n } = .ok os { w with drawn := n })
    (hc : ∀ n, (Builtin.firstCells sz m x).run P { w with drawn := n } = .ok us { w with drawn := n }) (hroom : ¬ len + m ≤ cap) (hb : (len + m) * bytes ≤ 2 ^ 47) (ty : TypeId) :
    ∃ rest : Array Value, ∃ ncap, len + m ≤ ncap ∧ rest.size = (ncap - (len + m)) * sz ∧
      (Builtin.append_ #[t, t2] ty #[.slice b len cap, x]).run P w = .ok (.slice (some ⟨w.heap.size, 0, none⟩) (len + m) ncap)
        (grow { w with drawn := w.drawn + 1 } (.cells (os ++ us ++ rest) e (0, 0))) := by
  obtain ⟨z, hz0, hzl⟩ := he.zero
  obtain ⟨zv, hz1, hz2, _⟩ := run_zeroValue (w := { w with drawn := w.drawn + 1 }) hz0
  obtain ⟨i0, hi0, hib⟩ := he.info w
  obtain ⟨i1, hi1, hib1⟩ := he.info { w with drawn := w.drawn + 1 }
  refine ⟨Builtin.zeroCells zv.cells ((Question.appendCap (len + m) cap e).cut (w.tape w.drawn (.appendCap (len + m) cap e)) - (len + m)),
    (Question.appendCap (len + m) cap e).cut (w.tape w.drawn (.appendCap (len + m) cap e)), Nat.le_add_right _ _, ?_, ?_⟩
  · simp [Builtin.zeroCells, hz2, hzl]
  · unfold Builtin.append_
    simp only [List.getElem?_toArray, List.getElem?_cons_zero, List.getElem?_cons_succ]
    have hb1 : ¬ (((len + m : Nat) : Int) > IntKind.i64.max ∧ ((false : Bool) = true ∨ i0.bytes = 0)) := by
      rintro ⟨_, h | h⟩
      · cases h
      · exact he.pos (hib ▸ h)
    have hb2 : ¬ Builtin.nextslicecap (len + m) cap * i0.bytes > 2 ^ 48 := by
      have := nextcap_le (len + m) cap (by omega)
      have h3 : Builtin.nextslicecap (len + m) cap * i0.bytes ≤ 2 * (len + m) * i0.bytes := Nat.mul_le_mul_right _ this
      rw [hib] at h3 ⊢
      rw [Nat.mul_assoc] at h3
      omega
    have hb1' : ¬ (((len + m : Nat) : Int) > IntKind.i64.max ∧ i0.bytes = 0) := fun h => hb1 ⟨h.1, .inr h.2⟩
    rcases srcTy_or ht2 with ⟨e2, hd⟩ | hd
    all_goals
      simp only [Sem.run_bind, run_underlying ht, run_sizeOf he.size, Result.andThen_ok, run_underlying hd, Sem.run_pure, Bool.false_eq_true, if_false, hl, if_neg hroom, hi0, false_or]
      rw [if_neg hb1']
      simp only [Sem.run_bind, Sem.run_pure, Result.andThen_ok, hi0, if_neg hb2, run_choose, Question.forced, Bool.false_eq_true, if_false, run_askRoom, hi1, hold, Bool.not_false, if_true, hc, hz1,
        newRow, run_newObj]
      rfl

end Go.Ab
