/- An abstract calculus over the model's weakest preconditions, part 19: a region that draws its order: stretches of quiet operations, and operations ahead of which, or behind which, all others are. -/
import Derived.Test.YtfjikgkcleefiaaDoorAb15
set_option linter.unusedSimpArgs false
set_option linter.unusedVariables false
namespace Go.Ab

def drawOkAt (ops : Array Oper) (lo hi : Nat) : Bool :=
  edgesBack ops &&
  (List.range ops.size).all fun j => Nat.blt j lo || Nat.ble hi j ||
    match ops[j]? with
    | none => true
    | some oj => oj.dst.isSome && (oj.dst.all fun d => !(oj.looksAt ops).contains d) &&
      (List.range j).all fun i => Nat.blt i lo ||
        match ops[i]? with
        | none => true
        | some oi => oi.dst != oj.dst && (oi.apart ops oj || bef ops j i)

/-- whatever is from hi on is behind all that is ahead of it, from lo on -/
def sepOk (ops : Array Oper) (lo hi : Nat) : Bool :=
  (List.range ops.size).all fun j => Nat.blt j hi || (List.range hi).all fun i => Nat.blt i lo || bef ops j i

theorem drawOkAt_spec {ops : Array Oper} {lo hi : Nat} (h : drawOkAt ops lo hi = true) : edgesBack ops = true ∧
    (∀ (j : Nat) o, lo ≤ j → j < hi → ops[j]? = some o → ∃ d, o.dst = some d ∧ d ∉ o.looksAt ops) ∧
    (∀ (i j : Nat) oi oj, lo ≤ i → i < j → j < hi → ops[i]? = some oi → ops[j]? = some oj → oi.dst ≠ oj.dst ∧ (oi.apart ops oj = true ∨ bef ops j i = true)) := by
  simp only [drawOkAt, Bool.and_eq_true] at h
  obtain ⟨h1, h2⟩ := h
  have hj : ∀ (j : Nat) o, ops[j]? = some o → j < ops.size := fun j o ho => (Array.getElem?_eq_some_iff.1 ho).1
  have key : ∀ (j : Nat) o, lo ≤ j → j < hi → ops[j]? = some o → o.dst.isSome = true ∧ (o.dst.all fun d => !(o.looksAt ops).contains d) = true ∧
      ((List.range j).all fun i => Nat.blt i lo || match ops[i]? with | none => true | some oi => oi.dst != o.dst && (oi.apart ops o || bef ops j i)) = true := by
    intro j o hl hh ho
    have := List.all_eq_true.1 h2 j (by simp [hj j o ho])
    rw [ho] at this
    simp only [Bool.or_eq_true, Bool.and_eq_true] at this
    rcases this with (h | h) | h
    · exact absurd (Nat.blt_eq.mp h) (by omega)
    · exact absurd (Nat.le_of_ble_eq_true h) (by omega)
    · exact ⟨h.1.1, h.1.2, h.2⟩
  refine ⟨h1, fun j o hl hh ho => ?_, fun i j oi oj hl hij hh hi hj' => ?_⟩
  · obtain ⟨ha, hb, _⟩ := key j o hl hh ho
    obtain ⟨d, hd⟩ := Option.isSome_iff_exists.1 ha
    rw [hd] at hb
    exact ⟨d, hd, by simpa using hb⟩
  · obtain ⟨_, _, hc⟩ := key j oj (by omega) hh hj'
    have := List.all_eq_true.1 hc i (by simp [hij])
    rw [hi] at this
    simp only [Bool.or_eq_true, Bool.and_eq_true] at this
    rcases this with h | h
    · exact absurd (Nat.blt_eq.mp h) (by omega)
    · exact ⟨by simpa using h.1, h.2⟩

theorem sepOk_spec {ops : Array Oper} {lo hi : Nat} (h : sepOk ops lo hi = true) {i j : Nat} (hj : hi ≤ j) (hjs : j < ops.size) (hi' : lo ≤ i) (hih : i < hi) : bef ops j i = true := by
  have := List.all_eq_true.1 h j (by simpa using hjs)
  simp only [Bool.or_eq_true] at this
  rcases this with h | h
  · exact absurd (Nat.blt_eq.mp h) (by omega)
  · have := List.all_eq_true.1 h i (by simpa using hih)
    simp only [Bool.or_eq_true] at this
    rcases this with h | h
    · exact absurd (Nat.blt_eq.mp h) (by omega)
    · exact h

def left (ops : Array Oper) (listed : Array Bool) : Nat := ((List.range ops.size).filter (fun j => !listed.getD j false)).length

theorem left_set {ops : Array Oper} {listed : Array Bool} {i : Nat} (hi : i < ops.size) (hs : listed.size = ops.size) (hn : listed.getD i false = false) : left ops (listed.setIfInBounds i true) < left ops listed := by
  have hget : ∀ j, (listed.setIfInBounds i true).getD j false = true ↔ listed.getD j false = true ∨ j = i := by
    intro j
    by_cases hji : i = j
    · subst hji
      simp only [Array.getD_eq_getD_getElem?, Array.getElem?_setIfInBounds_self_of_lt (show i < listed.size by omega), Option.getD_some]; simp
    · rw [getD_set_ne false hji]
      exact ⟨fun h => .inl h, fun h => h.resolve_right (fun e => hji e.symm)⟩
  unfold left
  have e : (List.range ops.size).filter (fun j => !(listed.setIfInBounds i true).getD j false) =
      ((List.range ops.size).filter (fun j => !listed.getD j false)).filter (fun j => decide (j ≠ i)) := by
    rw [List.filter_filter]
    apply List.filter_congr
    intro j _
    by_cases hji : j = i
    · subst hji
      have := (hget j).2 (.inr rfl)
      rw [this]; simp
    · cases h : listed.getD j false with
      | true => rw [(hget j).2 (.inl h)]; simp
      | false =>
        have : (listed.setIfInBounds i true).getD j false = false := by
          cases h2 : (listed.setIfInBounds i true).getD j false with
          | false => rfl
          | true => exact absurd (((hget j).1 h2).resolve_right hji) (by rw [h]; simp)
        rw [this]; simp [hji]
  rw [e]
  refine List.length_filter_lt_length_iff_exists.2 ⟨i, ?_, by simp⟩
  simp only [List.mem_filter, List.mem_range, hn]; exact ⟨hi, rfl⟩

theorem left_pos {ops : Array Oper} {listed : Array Bool} {i : Nat} (hi : i < ops.size) (hn : listed.getD i false = false) : 0 < left ops listed := by
  unfold left
  refine List.length_pos_of_mem (a := i) ?_
  simp only [List.mem_filter, List.mem_range, hn]; exact ⟨hi, rfl⟩

theorem getD_set_true {listed : Array Bool} {i j : Nat} (hi : i < listed.size) : (listed.setIfInBounds i true).getD j false = true ↔ listed.getD j false = true ∨ j = i := by
  by_cases hji : i = j
  · subst hji
    simp only [Array.getD_eq_getD_getElem?, Array.getElem?_setIfInBounds_self_of_lt hi, Option.getD_some]; simp
  · rw [getD_set_ne false hji]
    exact ⟨fun h => .inl h, fun h => h.resolve_right (fun e => hji e.symm)⟩

theorem ready_iff {ops : Array Oper} {listed : Array Bool} (hs : listed.size = ops.size) {i : Nat} : i ∈ Region.ready .any ops listed ↔ listed.getD i false = false ∧ ∃ o, ops[i]? = some o ∧ ∀ e, e ∈ o.after → Region.binds .any e = true → listed.getD e.on false = true := by
  rw [mem_ready]
  constructor
  · rintro ⟨h1, o, h2, h3⟩
    have hi : i < listed.size := by rw [hs]; exact (Array.getElem?_eq_some_iff.1 h2).1
    refine ⟨?_, o, h2, h3⟩
    simp only [Array.getD_eq_getD_getElem?, Array.getElem?_eq_getElem hi, Option.getD_some] at h1 ⊢
    exact h1
  · rintro ⟨h1, o, h2, h3⟩
    have hi : i < listed.size := by rw [hs]; exact (Array.getElem?_eq_some_iff.1 h2).1
    refine ⟨?_, o, h2, h3⟩
    simp only [Array.getD_eq_getD_getElem?, Array.getElem?_eq_getElem hi, Option.getD_some] at h1 ⊢
    exact h1

/-- what is listed is closed -/
def Closed (ops : Array Oper) (listed : Array Bool) : Prop :=
  ∀ (j : Nat) o e, listed.getD j false = true → ops[j]? = some o → e ∈ o.after.toList → Region.binds .any e = true → listed.getD e.on false = true

theorem listed_lt {ops : Array Oper} {listed : Array Bool} (hs : listed.size = ops.size) {j : Nat} (h : listed.getD j false = true) : j < ops.size := by
  rw [← hs]
  by_cases hj : j < listed.size
  · exact hj
  · simp only [Array.getD_eq_getD_getElem?, Array.getElem?_eq_none (Nat.le_of_not_lt hj)] at h; simp at h

theorem bef_listed {ops : Array Oper} (hback : edgesBack ops = true) {listed : Array Bool} (hs : listed.size = ops.size) (hc : Closed ops listed) {i : Nat} {o : Oper} (ho : ops[i]? = some o)
    (he : ∀ e, e ∈ o.after → Region.binds .any e = true → listed.getD e.on false = true) {j : Nat} (hb : bef ops i j = true) (hji : j ≠ i) : listed.getD j false = true := by
  have hD : ∀ (j : Nat) o' e, (listed.getD j false = true ∨ j = i) → ops[j]? = some o' → e ∈ o'.after.toList → Region.binds .any e = true → (listed.getD e.on false = true ∨ e.on = i) := by
    intro j o' e hj ho' hee hbb
    rcases hj with hj | hj
    · exact .inl (hc j o' e hj ho' hee hbb)
    · subst hj
      rw [ho] at ho'; cases ho'
      exact .inl (he e (by simpa using hee) hbb)
  have := closed_bef hback (D := fun j => listed.getD j false = true ∨ j = i) hD (fun j hj => hj.elim (listed_lt hs) (fun e => e ▸ (Array.getElem?_eq_some_iff.1 ho).1)) i j (.inr rfl) hb
  exact this.resolve_right hji

/-- what an operation of a stretch does: it hands a value over; or it lays a new object -/
inductive Item where
  | q (p : PV)
  | al (b : Nat) (cs : List PV) (e : TypeId)

def Item.pv : Item → PV
  | .q p => p
  | .al b _ _ => .ptr b 0

/-- the new objects, in the text's order -/
def newObs : List Item → List (List PV × TypeId)
  | [] => []
  | .q _ :: r => newObs r
  | .al _ cs e :: r => (cs, e) :: newObs r

/-- an operation that lays a new object -/
def Lays (P : Program) (o : Oper) (σ : AS) (cs : List PV) (e : TypeId) : Prop :=
  (∃ z, o.op = .alloc e ∧ zeroPV P e = some z ∧ z.length = cs.length ∧ Leafs cs ∧ ∀ w c (f : Nat → Option Value), (∃ H ts, Good w c H ts) → VRs w c z f → VRs w c cs f) ∨ (∃ x p, o.op = .box e x ∧ σ.eval x = p ∧ stor p = true ∧ cs = cellsOf p)

/-- What is to be shown of the operations, one by one. -/
def Does (P : Program) (ops : Array Oper) (base : List AObj) (OK : List AObj → Prop) : List Oper → List Item → Nat → AS → Prop
  | o :: os, it :: its, n, σ => (match it with
      | .q p => ∃ g, guardOf ops (σ.keep (o.looksAt ops)) o = some g ∧ (if g = true then ∀ X, OK X → QStep P o { σ.keep (o.looksAt ops) with H := base ++ X } p else p = .tup [])
      | .al b cs e => b = n ∧ guardOf ops (σ.keep (o.looksAt ops)) o = some true ∧ Lays P o (σ.keep (o.looksAt ops)) cs e) ∧
      Does P ops base OK os its (match it with | .q _ => n | .al _ _ _ => n + 1) (σ.put o.dst it.pv)
  | [], [], _, _ => True
  | _, _, _, _ => False

theorem does_at {P : Program} {ops : Array Oper} {base : List AObj} {OK : List AObj → Prop} : ∀ {l : List Oper} {its : List Item} {n : Nat} {σ : AS}, Does P ops base OK l its n σ → l.length = its.length ∧
    ∀ (i : Nat) o it, l[i]? = some o → its[i]? = some it → (match it with
      | .q p => ∃ g, guardOf ops ((pre l (its.map Item.pv) σ i).keep (o.looksAt ops)) o = some g ∧ (if g = true then ∀ X, OK X → QStep P o { (pre l (its.map Item.pv) σ i).keep (o.looksAt ops) with H := base ++ X } p else p = .tup [])
      | .al b cs e => b = n + (newObs (its.take i)).length ∧ guardOf ops ((pre l (its.map Item.pv) σ i).keep (o.looksAt ops)) o = some true ∧ Lays P o ((pre l (its.map Item.pv) σ i).keep (o.looksAt ops)) cs e)
  | [], [], _, _, _ => ⟨rfl, fun i o it h => by simp at h⟩
  | o :: os, it :: its, n, σ, h => by
    obtain ⟨h1, h2⟩ := h
    obtain ⟨hl, ih⟩ := does_at h2
    refine ⟨by simp [hl], fun i o' it' ho hp => ?_⟩
    cases i with
    | zero =>
      simp at ho hp; subst ho; subst hp
      cases it with
      | q p => exact h1
      | al b cs e => exact ⟨by simpa [newObs] using h1.1, h1.2.1, h1.2.2⟩
    | succ i =>
      have := ih i o' it' (by simpa using ho) (by simpa using hp)
      cases it' with
      | q p => simpa [pre, putAll] using this
      | al b cs e =>
        obtain ⟨e1, e2, e3⟩ := this
        refine ⟨?_, by simpa [pre, putAll] using e2, by simpa [pre, putAll] using e3⟩
        cases it with
        | q _ => simpa [newObs] using e1
        | al _ _ _ => simp only [List.take_succ_cons, newObs, List.length_cons] at e1 ⊢; omega
  | [], _ :: _, _, _, h => h.elim
  | _ :: _, [], _, _, h => h.elim

/-- the new objects that are there already -/
def objsAt (listed : Nat → Bool) : List Item → Nat → List AObj
  | [], _ => []
  | .q _ :: r, j => objsAt listed r (j + 1)
  | .al _ cs e :: r, j => (bif listed j then .row cs e else .gone) :: objsAt listed r (j + 1)

theorem objsAt_len (listed : Nat → Bool) : ∀ (l : List Item) (j : Nat), (objsAt listed l j).length = (newObs l).length
  | [], _ => rfl
  | .q _ :: r, j => by simp only [objsAt, newObs, objsAt_len listed r]
  | .al _ _ _ :: r, j => by simp only [objsAt, newObs, List.length_cons, objsAt_len listed r]

theorem objsAt_congr {f g : Nat → Bool} : ∀ (l : List Item) (j : Nat), (∀ i b cs e, l[i]? = some (.al b cs e) → f (j + i) = g (j + i)) → objsAt f l j = objsAt g l j
  | [], _, _ => rfl
  | .q _ :: r, j, h => by
    simp only [objsAt]
    exact objsAt_congr r (j + 1) fun i b cs e hi => by have := h (i + 1) b cs e (by simpa using hi); rw [Nat.add_assoc, Nat.add_comm 1 i]; exact this
  | .al b cs e :: r, j, h => by
    simp only [objsAt]
    have h0 := h 0 b cs e rfl
    rw [Nat.add_zero] at h0
    rw [h0]
    refine congrArg _ (objsAt_congr r (j + 1) fun i b cs e hi => ?_)
    have := h (i + 1) b cs e (by simpa using hi); rw [Nat.add_assoc, Nat.add_comm 1 i]; exact this

/-- one more is there -/
theorem objsAt_set {f : Nat → Bool} : ∀ (l : List Item) (j i : Nat) {b : Nat} {cs : List PV} {e : TypeId}, l[i]? = some (.al b cs e) → f (j + i) = false →
    (objsAt f l j)[(newObs (l.take i)).length]? = some .gone ∧ objsAt (fun k => f k || Nat.beq k (j + i)) l j = (objsAt f l j).set (newObs (l.take i)).length (.row cs e)
  | [], _, _, _, _, _, h, _ => by simp at h
  | .q p :: r, j, 0, _, _, _, h, _ => by simp at h
  | .q p :: r, j, i + 1, b, cs, e, h, hf => by
    have := objsAt_set r (j + 1) i (b := b) (cs := cs) (e := e) (f := f) (by simpa using h) (by rw [Nat.add_assoc, Nat.add_comm 1 i]; exact hf)
    simp only [objsAt, List.take_succ_cons, newObs]
    rw [Nat.add_assoc, Nat.add_comm 1 i] at this
    exact this
  | .al b0 cs0 e0 :: r, j, 0, b, cs, e, h, hf => by
    simp only [List.getElem?_cons_zero, Option.some.injEq, Item.al.injEq] at h
    obtain ⟨rfl, rfl, rfl⟩ := h
    simp only [Nat.add_zero] at hf
    simp only [objsAt, List.take_zero, newObs, List.length_nil, List.getElem?_cons_zero, List.set_cons_zero, hf, cond_false, Nat.add_zero, Nat.beq_refl, Bool.or_true, cond_true, List.cons.injEq, true_and]
    refine objsAt_congr r (j + 1) fun i b cs e _ => ?_
    have : Nat.beq (j + 1 + i) j = false := by
      cases hb : Nat.beq (j + 1 + i) j with
      | false => rfl
      | true => have := Nat.eq_of_beq_eq_true hb; omega
    rw [this, Bool.or_false]
  | .al b0 cs0 e0 :: r, j, i + 1, b, cs, e, h, hf => by
    have := objsAt_set r (j + 1) i (b := b) (cs := cs) (e := e) (f := f) (by simpa using h) (by rw [Nat.add_assoc, Nat.add_comm 1 i]; exact hf)
    rw [Nat.add_assoc, Nat.add_comm 1 i] at this
    simp only [objsAt, List.take_succ_cons, newObs, List.length_cons, List.getElem?_cons_succ, List.set_cons_succ]
    refine ⟨this.1, ?_⟩
    rw [this.2]
    have hne : Nat.beq j (j + (i + 1)) = false := by
      cases hb : Nat.beq j (j + (i + 1)) with
      | false => rfl
      | true => have := Nat.eq_of_beq_eq_true hb; omega
    rw [hne, Bool.or_false]

theorem objsAt_all {f : Nat → Bool} : ∀ (l : List Item) (j : Nat), (∀ i, i < l.length → f (j + i) = true) → objsAt f l j = (newObs l).map fun x => .row x.1 x.2
  | [], _, _ => rfl
  | .q _ :: r, j, h => by
    simp only [objsAt, newObs]
    exact objsAt_all r (j + 1) fun i hi => by have := h (i + 1) (by simpa using hi); rw [Nat.add_assoc, Nat.add_comm 1 i]; exact this
  | .al b cs e :: r, j, h => by
    simp only [objsAt, newObs, List.map_cons]
    have h0 := h 0 (by simp)
    rw [Nat.add_zero] at h0
    rw [h0, objsAt_all r (j + 1) fun i hi => by have := h (i + 1) (by simpa using hi); rw [Nat.add_assoc, Nat.add_comm 1 i]; exact this]
    rfl

theorem objsAt_none {f : Nat → Bool} : ∀ (l : List Item) (j : Nat), (∀ i, i < l.length → f (j + i) = false) → objsAt f l j = List.replicate (newObs l).length .gone
  | [], _, _ => rfl
  | .q _ :: r, j, h => by
    simp only [objsAt, newObs]
    exact objsAt_none r (j + 1) fun i hi => by have := h (i + 1) (by simpa using hi); rw [Nat.add_assoc, Nat.add_comm 1 i]; exact this
  | .al b cs e :: r, j, h => by
    simp only [objsAt, newObs, List.length_cons, List.replicate_succ]
    have h0 := h 0 (by simp)
    rw [Nat.add_zero] at h0
    rw [h0, objsAt_none r (j + 1) fun i hi => by have := h (i + 1) (by simpa using hi); rw [Nat.add_assoc, Nat.add_comm 1 i]; exact this]
    rfl

/-- A new object at a place that is kept for it. -/
theorem alloc_at {w : World} {c : Cx} {H : List AObj} {ts : List Bool} (g : Good w c H ts) {b : Nat} (hb : H[b]? = some .gone) {cs : List PV} {vs : Array Value} {e : TypeId} {fr : Nat × Nat}
    (hn : vs.size = cs.length) (hf : nofz fr vs.size) (hlf : Leafs cs) (hv : VRs w c cs (fun i => vs[i]?)) :
    Good (grow w (.cells vs e fr)) { c with m := c.m.set b (some w.heap.size) } (H.set b (.row cs e)) ts ∧
      Ext w c (grow w (.cells vs e fr)) { c with m := c.m.set b (some w.heap.size) } ∧ (c.m.set b (some w.heap.size))[b]? = some (some w.heap.size) := by
  have hbl : b < c.m.length := by rw [g.len]; exact (List.getElem?_eq_some_iff.1 hb).1
  have hbn : c.m[b]? = some none := g.obj b _ hb
  have hself : (c.m.set b (some w.heap.size))[b]? = some (some w.heap.size) := List.getElem?_set_self hbl
  have hids : ∀ i k : Nat, c.m[i]? = some (some k) → (c.m.set b (some w.heap.size))[i]? = some (some k) := fun i k h => by
    have hne : b ≠ i := fun e => by subst e; rw [hbn] at h; cases h
    rw [List.getElem?_set_ne hne]; exact h
  have back : ∀ i k : Nat, (c.m.set b (some w.heap.size))[i]? = some (some k) → c.m[i]? = some (some k) ∨ (i = b ∧ k = w.heap.size) := fun i k h => by
    by_cases hi : b = i
    · subst hi; rw [hself] at h; cases h; exact .inr ⟨rfl, rfl⟩
    · rw [List.getElem?_set_ne hi] at h; exact .inl h
  have x : Ext w c (grow w (.cells vs e fr)) { c with m := c.m.set b (some w.heap.size) } := by
    refine Ext.of_grow _ rfl rfl rfl (by simp [grow]) (fun k hk => grow_old w _ k hk) hids (fun k h => ?_) (fun i k j h => g.tlt h)
    rcases List.mem_or_eq_of_mem_set h with h | h
    · exact .inl h
    · cases h; exact .inr (Nat.le_refl _)
  refine ⟨⟨by simp [g.len], ?_, ?_, g.tl, g.tal, g.tdead, ?_, g.tinj, fun k e h => g.okn k e (Nat.le_trans x.size h), g.okm, g.okt⟩, x, hself⟩
  · intro i j k hi hj
    rcases back i k hi with hi | ⟨ei, ek⟩ <;> rcases back j k hj with hj | ⟨ej, ek'⟩
    · exact g.inj i j k hi hj
    · have := ObjC.lt g hi; omega
    · have := ObjC.lt g hj; omega
    · omega
  · intro i o h
    by_cases hi : b = i
    · subst hi
      rw [List.getElem?_set_self (List.getElem?_eq_some_iff.1 hb).1] at h
      cases h
      exact ⟨w.heap.size, vs, fr, hself, grow_new w _, hf, hn, hlf, VRs.ext x cs (fun _ _ _ e => e) hv⟩
    · rw [List.getElem?_set_ne hi] at h
      have ho := g.obj i o h
      cases o with
      | row cs' e' =>
        obtain ⟨k, vs', fr', h1, h2, hf', h3, hl', h4⟩ := ho
        exact ⟨k, vs', fr', x.ids _ _ h1, (grow_old w _ k (ObjC.lt g h1)).trans h2, hf', h3, hl', VRs.ext x cs' (fun _ _ _ e => e) h4⟩
      | raw o =>
        obtain ⟨k, h1, h2⟩ := ho
        exact ⟨k, x.ids _ _ h1, (grow_old w _ k (ObjC.lt g h1)).trans h2⟩
      | gone =>
        show (c.m.set b (some w.heap.size))[i]? = some none
        rw [List.getElem?_set_ne hi]; exact ho
  · intro i k j h
    obtain ⟨h1, vs', e', fr', h2, h3⟩ := g.tok i k j h
    refine ⟨fun hm => ?_, vs', e', fr', (grow_old w _ k (g.tlt h)).trans h2, h3⟩
    rcases List.mem_or_eq_of_mem_set hm with hm | hm
    · exact h1 hm
    · cases hm; have := g.tlt h; omega

/-- places are kept for new objects -/
theorem good_room {w : World} {c : Cx} {H : List AObj} {ts : List Bool} (g : Good w c H ts) (n : Nat) :
    Good w { c with m := c.m ++ List.replicate n none } (H ++ List.replicate n .gone) ts ∧ Ext w c w { c with m := c.m ++ List.replicate n none } := by
  have hids : ∀ i k : Nat, c.m[i]? = some (some k) → (c.m ++ List.replicate n none)[i]? = some (some k) := fun i k h => by
    rw [List.getElem?_append_left (List.getElem?_eq_some_iff.1 h).1]; exact h
  have back : ∀ i k : Nat, (c.m ++ List.replicate n none)[i]? = some (some k) → c.m[i]? = some (some k) := fun i k h => by
    by_cases hi : i < c.m.length
    · rw [List.getElem?_append_left hi] at h; exact h
    · rw [List.getElem?_append_right (by omega), List.getElem?_replicate] at h
      split at h <;> simp at h
  have x : Ext w c w { c with m := c.m ++ List.replicate n none } :=
    Ext.of_grow _ rfl rfl rfl (Nat.le_refl _) (fun _ _ => rfl) hids (fun k h => by
      rcases List.mem_append.1 h with h | h
      · exact .inl h
      · rw [List.mem_replicate] at h; cases h.2) (fun i k j h => g.tlt h)
  refine ⟨⟨by simp [g.len], fun i j k h1 h2 => g.inj i j k (back i k h1) (back j k h2), ?_, g.tl, g.tal, g.tdead, ?_, g.tinj, g.okn, g.okm, g.okt⟩, x⟩
  · intro i o h
    by_cases hi : i < H.length
    · rw [List.getElem?_append_left hi] at h
      have ho := g.obj i o h
      cases o with
      | row cs' e' =>
        obtain ⟨k, vs', fr', h1, h2, hf', h3, hl', h4⟩ := ho
        exact ⟨k, vs', fr', hids _ _ h1, h2, hf', h3, hl', VRs.ext x cs' (fun _ _ _ e => e) h4⟩
      | raw o =>
        obtain ⟨k, h1, h2⟩ := ho
        exact ⟨k, hids _ _ h1, h2⟩
      | gone =>
        show (c.m ++ List.replicate n none)[i]? = some none
        rw [List.getElem?_append_left (by rw [g.len]; exact hi)]; exact ho
    · rw [List.getElem?_append_right (by omega), List.getElem?_replicate] at h
      split at h
      · rename_i hlt
        cases h
        show (c.m ++ List.replicate n none)[i]? = some none
        rw [List.getElem?_append_right (by rw [g.len]; omega), List.getElem?_replicate, g.len, if_pos hlt]
      · cases h
  · intro i k j h
    obtain ⟨h1, h2⟩ := g.tok i k j h
    refine ⟨fun hm => ?_, h2⟩
    rcases List.mem_append.1 hm with hm | hm
    · exact h1 hm
    · rw [List.mem_replicate] at hm; cases hm.2

/-- how matters stand when the operations ahead of lo, and some of those from lo to hi, are done -/
structure MidA (ops : Array Oper) (its : List Item) (σ : AS) (c : Cx) (lo hi : Nat) (listed : Array Bool) (a : Act) (w : World) : Prop where
  good : Good w c (σ.H ++ objsAt (fun j => listed.getD j false) its lo) σ.ts
  size : a.tmps.size = σ.n
  sz : listed.size = ops.size
  old : ∀ t, t < σ.n → (∀ (j : Nat) o, lo ≤ j → listed.getD j false = true → ops[j]? = some o → o.dst ≠ some t) → VR w c (σ.get t) (a.tmps.getD t undef)
  new : ∀ (j : Nat) o it t, lo ≤ j → listed.getD j false = true → ops[j]? = some o → its[j - lo]? = some it → o.dst = some t → t < σ.n → VR w c it.pv (a.tmps.getD t undef)
  closed : Closed ops listed
  ahead : ∀ j, j < lo → j < ops.size → listed.getD j false = true
  below : ∀ j, listed.getD j false = true → j < hi

def seg (ops : Array Oper) (lo hi : Nat) : List Oper := (ops.toList.drop lo).take (hi - lo)

theorem seg_get {ops : Array Oper} {lo hi j : Nat} (hl : lo ≤ j) (hh : j < hi) : (seg ops lo hi)[j - lo]? = ops[j]? := by
  unfold seg
  rw [List.getElem?_take, if_pos (by omega), List.getElem?_drop]
  have : lo + (j - lo) = j := by omega
  rw [this]; simp

/-- the state behind a stretch -/
def behind (l : List Oper) (its : List Item) (σ : AS) : AS := { putAll l (its.map Item.pv) σ with H := σ.H ++ (newObs its).map fun x => .row x.1 x.2 }

theorem seg_draw {P : Program} {ops : Array Oper} {σ : AS} {lo hi : Nat} {Q' : Exit → Act → World → Prop} (its : List Item) (hok : drawOkAt ops lo hi = true) (hsep : sepOk ops lo hi = true) (hlh : lo ≤ hi) (hle : hi ≤ ops.size)
    (hdn : ∀ o, o ∈ seg ops lo hi → o.dst.all (fun d => decide (d < σ.n)) = true) {OK : List AObj → Prop} (hX : ∀ f, OK (objsAt f its lo)) (hq : Does P ops σ.H OK (seg ops lo hi) its σ.H.length σ) :
    ∀ (n fuel : Nat) (listed : Array Bool) (c : Cx) (a : Act) (w : World), left ops listed = n → n ≤ fuel → MidA ops its σ c lo hi listed a w →
      (∀ fuel listed' c' a' w', listed'.size = ops.size → (∀ j, j < ops.size → (listed'.getD j false = true ↔ j < hi)) → Closed ops listed' → left ops listed' ≤ fuel → RelC w' c' (behind (seg ops lo hi) its σ) a' → Ext w c w' c' → a'.defers = a.defers →
        wpAny P .any ops Q' fuel listed' a' w') → wpAny P .any ops Q' fuel listed a w := by
  obtain ⟨hback, hdst, hpair⟩ := drawOkAt_spec hok
  obtain ⟨hlen0, hat⟩ := does_at hq
  have hlen : (seg ops lo hi).length = (its.map Item.pv).length := by rw [List.length_map]; exact hlen0
  have hsl : (seg ops lo hi).length = hi - lo := by simp [seg]; omega
  intro n
  induction n using Nat.strongRecOn with
  | _ n ih =>
    intro fuel listed c a w hn hf hmid hK
    by_cases hall : ∀ j, lo ≤ j → j < hi → listed.getD j false = true
    · -- the stretch is done
      refine hK fuel listed c a w hmid.sz (fun j hj => ⟨fun h => hmid.below j h, fun h => ?_⟩) hmid.closed (by omega) ⟨?_, ?_⟩ (Ext.refl _ _) rfl
      · by_cases hjl : j < lo
        · exact hmid.ahead j hjl hj
        · exact hall j (by omega) h
      · obtain ⟨h1, h2, h3⟩ := putAll_n (seg ops lo hi) (its.map Item.pv) σ
        simp only [behind, h3]
        rw [← objsAt_all (f := fun j => listed.getD j false) its lo fun i hi' => hall (lo + i) (by omega) (by rw [← hlen0, hsl] at hi'; omega)]
        exact hmid.good
      · obtain ⟨h1, h2, h3⟩ := putAll_n (seg ops lo hi) (its.map Item.pv) σ
        refine ⟨by simp only [behind, h1]; exact hmid.size, fun t p hl ht => ?_⟩
        simp only [behind] at hl ht
        rw [h1] at ht
        have hg : (putAll (seg ops lo hi) (its.map Item.pv) σ).get t = p := by
          simp only [AS.get, h1, Nat.blt_eq.mpr ht, cond_true, hl, Option.getD_some]
        have hts : t < a.tmps.size := by rw [hmid.size]; exact ht
        refine ⟨a.tmps[t], by simp [hts], ?_⟩
        have hgd : a.tmps.getD t undef = a.tmps[t] := by simp [Array.getD_eq_getD_getElem?, hts]
        rw [← hgd]
        rcases putAll_get (seg ops lo hi) (its.map Item.pv) σ t hlen ht with ⟨j, o, p', h4, h5, h6, h7⟩ | ⟨h4, h5⟩
        · rw [← hg, h7]
          have hjl : j < hi - lo := by rw [← hsl]; exact (List.getElem?_eq_some_iff.1 h4).1
          have ho : ops[lo + j]? = some o := by
            rw [← seg_get (hi := hi) (Nat.le_add_right lo j) (by omega), Nat.add_sub_cancel_left]; exact h4
          rw [List.getElem?_map] at h5
          cases hit : its[j]? with
          | none => rw [hit] at h5; cases h5
          | some it =>
            rw [hit] at h5; simp only [Option.map_some, Option.some.injEq] at h5; subst h5
            exact hmid.new (lo + j) o it t (by omega) (hall _ (by omega) (by omega)) ho (by rw [Nat.add_sub_cancel_left]; exact hit) h6 ht
        · rw [← hg, h5]
          refine hmid.old t ht (fun j o hjl hD ho => h4 (j - lo) o ?_)
          rw [seg_get hjl (hmid.below j hD)]; exact ho
    · -- something is left
      have hex : ∃ j, lo ≤ j ∧ j < hi ∧ listed.getD j false = false := by
        apply Classical.byContradiction
        intro hno
        apply hall
        intro j h1 h2
        cases h : listed.getD j false with
        | true => rfl
        | false => exact absurd ⟨j, h1, h2, h⟩ hno
      obtain ⟨j0, hj0, hj1, hj2⟩ := hex
      have hpos := left_pos (ops := ops) (listed := listed) (i := j0) (by omega) hj2
      cases fuel with
      | zero => omega
      | succ fuel =>
        refine ⟨fun hr => ?_, fun i hi' => ?_⟩
        · -- some one is ready
          exfalso
          have : ∀ j, j ≤ j0 → listed.getD j false = true := by
            intro j
            induction j using Nat.strongRecOn with
            | _ j ihj =>
              intro hj
              cases hl : listed.getD j false with
              | true => rfl
              | false =>
                have hjs : j < ops.size := by omega
                have : j ∈ Region.ready .any ops listed := by
                  rw [ready_iff hmid.sz]
                  refine ⟨hl, ops[j], by simp [hjs], fun e he hb => ?_⟩
                  have hlt := edgesBack_spec hback (o := ops[j]) (Array.getElem?_eq_getElem hjs) (Array.mem_toList_iff.2 he) hb
                  exact ihj e.on hlt (by omega)
                rw [hr] at this; cases this
          have := this j0 (Nat.le_refl _)
          rw [hj2] at this; cases this
        · rw [ready_iff hmid.sz] at hi'
          obtain ⟨hnD, o, ho, hedges⟩ := hi'
          have hil : i < ops.size := (Array.getElem?_eq_some_iff.1 ho).1
          have hlo : lo ≤ i := by
            apply Classical.byContradiction
            intro h
            have := hmid.ahead i (by omega) hil
            rw [hnD] at this; cases this
          have hhi : i < hi := by
            apply Classical.byContradiction
            intro h
            have hb := sepOk_spec hsep (i := j0) (j := i) (by omega) hil hj0 hj1
            have := bef_listed hback hmid.sz hmid.closed ho hedges hb (by omega)
            rw [hj2] at this; cases this
          have hp : ∃ it, its[i - lo]? = some it := by
            have : i - lo < its.length := by rw [← hlen0, hsl]; omega
            exact ⟨its[i - lo], by simp [this]⟩
          obtain ⟨it, hit⟩ := hp
          have hati := hat (i - lo) o it (by rw [seg_get hlo hhi]; exact ho) hit
          obtain ⟨d, hdd, hdl⟩ := hdst i o hlo hhi ho
          have hmemo : o ∈ seg ops lo hi := List.mem_of_getElem? (i := i - lo) (by rw [seg_get hlo hhi]; exact ho)
          have hdlt : d < σ.n := by
            have := hdn o hmemo
            rw [hdd] at this; simpa using this
          -- the slots that the operation looks at
          have hslo : SlotsR w c ((pre (seg ops lo hi) (its.map Item.pv) σ (i - lo)).keep (o.looksAt ops)) a.tmps := by
            obtain ⟨h1, h2, h3⟩ := putAll_n ((seg ops lo hi).take (i - lo)) ((its.map Item.pv).take (i - lo)) σ
            refine ⟨by simp only [AS.keep, pre, h1]; exact hmid.size, fun t q hl ht => ?_⟩
            simp only [AS.keep, pre, h1] at ht
            have hq' := look_keep _ _ _ _ hl
            have hmem : t ∈ o.looksAt ops := by
              simp only [AS.keep] at hl
              clear hq' hat hq hK hmid hati hedges
              generalize o.looksAt ops = L at hl
              induction L with
              | nil => simp [look] at hl
              | cons s L ihL =>
                simp only [List.map_cons, look] at hl
                cases hb : Nat.beq s t with
                | true => rw [Nat.eq_of_beq_eq_true hb]; simp
                | false => rw [hb] at hl; simp [ihL (by simpa using hl)]
            have hts : t < a.tmps.size := by rw [hmid.size]; exact ht
            refine ⟨a.tmps[t], by simp [hts], ?_⟩
            have hgd : a.tmps.getD t undef = a.tmps[t] := by simp [Array.getD_eq_getD_getElem?, hts]
            rw [← hgd, ← hq']
            have hlen' : ((seg ops lo hi).take (i - lo)).length = ((its.map Item.pv).take (i - lo)).length := by simp only [List.length_take, hlen]
            rcases putAll_get ((seg ops lo hi).take (i - lo)) ((its.map Item.pv).take (i - lo)) σ t hlen' ht with ⟨j, oj, pj, h4, h5, h6, h7⟩ | ⟨h4, h5⟩
            · have hji : j < i - lo := by
                have := (List.getElem?_eq_some_iff.1 h4).1; simp at this; omega
              have hoj : ops[lo + j]? = some oj := by
                rw [List.getElem?_take, if_pos hji] at h4
                rw [← seg_get (hi := hi) (Nat.le_add_right lo j) (by omega), Nat.add_sub_cancel_left]; exact h4
              rw [List.getElem?_take, if_pos hji, List.getElem?_map] at h5
              cases hitj : its[j]? with
              | none => rw [hitj] at h5; cases h5
              | some itj =>
                rw [hitj] at h5; simp only [Option.map_some, Option.some.injEq] at h5; subst h5
                have : bef ops i (lo + j) = true := by
                  rcases (hpair (lo + j) i oj o (by omega) (by omega) hhi hoj ho).2 with hap | hb
                  · exact absurd hmem ((Oper.apart_spec hap).1 t h6)
                  · exact hb
                have hDj := bef_listed hback hmid.sz hmid.closed ho hedges this (by omega)
                rw [show (pre (seg ops lo hi) (its.map Item.pv) σ (i - lo)).get t = itj.pv from h7]
                exact hmid.new (lo + j) oj itj t (by omega) hDj hoj (by rw [Nat.add_sub_cancel_left]; exact hitj) h6 ht
            · rw [show (pre (seg ops lo hi) (its.map Item.pv) σ (i - lo)).get t = σ.get t from h5]
              refine hmid.old t ht (fun j oj hjl hDj hoj he => ?_)
              have hjh := hmid.below j hDj
              by_cases hji : j < i
              · exact h4 (j - lo) oj (by rw [List.getElem?_take, if_pos (by omega), seg_get hjl hjh]; exact hoj) he
              · rcases Nat.lt_or_ge i j with hij | hij
                · rcases (hpair i j o oj hlo hij hjh ho hoj).2 with hap | hb
                  · exact absurd hmem ((Oper.apart_spec hap).2.2 t he)
                  · have := closed_bef hback (D := fun j => listed.getD j false = true) hmid.closed (fun j hj => listed_lt hmid.sz hj) j i hDj hb
                    rw [hnD] at this; cases this
                · have : j = i := by omega
                  subst this
                  rw [hnD] at hDj; cases hDj
          have hsi : i < listed.size := by rw [hmid.sz]; exact hil
          have hget : ∀ j, (listed.setIfInBounds i true).getD j false = true ↔ listed.getD j false = true ∨ j = i := fun j => getD_set_true hsi
          have hfun : (fun j => (listed.setIfInBounds i true).getD j false) = fun j => listed.getD j false || Nat.beq j i := by
            funext j
            rw [Bool.eq_iff_iff, hget, Bool.or_eq_true]
            exact ⟨fun h => h.imp id (fun e => by rw [e]; exact Nat.beq_refl _), fun h => h.imp id Nat.eq_of_beq_eq_true⟩
          -- behind the operation
          have hnext : ∀ v c2 w2, VR w2 c2 it.pv v → Good w2 c2 (σ.H ++ objsAt (fun j => (listed.setIfInBounds i true).getD j false) its lo) σ.ts → Ext w c w2 c2 →
              wpAny P .any ops Q' fuel (listed.setIfInBounds i true) (a.put o.dst v) w2 := by
            intro v c2 w2 hv hg2 hx2
            have hds : d < a.tmps.size := by rw [hmid.size]; exact hdlt
            have hlt := left_set (ops := ops) hil hmid.sz hnD
            refine ih (left ops (listed.setIfInBounds i true)) (by omega) fuel _ c2 _ _ rfl (by omega) ?_ (fun fuel' listed' c' a' w' s1 s2 s3 s4 s5 s6 s7 => hK fuel' listed' c' a' w' s1 s2 s3 s4 s5 (hx2.trans s6) (s7.trans (Act.put_defers' _ _ _)))
            refine ⟨hg2, ?_, by simp [hmid.sz], ?_, ?_, ?_, ?_, ?_⟩
            · rw [hdd]; simp only [Act.put, Array.size_setIfInBounds]; exact hmid.size
            · intro t ht hno
              rw [hdd, getD_put _ _ _ _ hds]
              have hne : d ≠ t := fun e => hno i o hlo ((hget i).2 (.inr rfl)) ho (by rw [hdd, e])
              rw [if_neg hne]
              exact (hmid.old t ht (fun j oj hjl hDj => hno j oj hjl ((hget j).2 (.inl hDj)))).ext hx2
            · intro j oj itj t hjl hDj hoj hpj hjt ht
              rw [hdd, getD_put _ _ _ _ hds]
              by_cases hji : j = i
              · subst hji
                rw [ho] at hoj; cases hoj
                rw [hdd] at hjt; cases hjt
                rw [if_pos rfl]
                rw [hit] at hpj; cases hpj
                exact hv
              · have hDj' := ((hget j).1 hDj).resolve_right hji
                have hjh := hmid.below j hDj'
                have hne : d ≠ t := by
                  intro e
                  subst e
                  rcases Nat.lt_or_ge j i with h | h
                  · exact (hpair j i oj o hjl h hhi hoj ho).1 (by rw [hjt, hdd])
                  · exact (hpair i j o oj hlo (by omega) hjh ho hoj).1 (by rw [hjt, hdd])
                rw [if_neg hne]
                exact (hmid.new j oj itj t hjl hDj' hoj hpj hjt ht).ext hx2
            · intro j oj e hDj hoj he hb
              rcases (hget j).1 hDj with h | h
              · exact (hget _).2 (.inl (hmid.closed j oj e h hoj he hb))
              · subst h
                rw [ho] at hoj; cases hoj
                exact (hget _).2 (.inl (hedges e (by simpa using he) hb))
            · intro j hjl hjs
              exact (hget j).2 (.inl (hmid.ahead j hjl hjs))
            · intro j hDj
              rcases (hget j).1 hDj with h | h
              · exact hmid.below j h
              · subst h; exact hhi
          -- a value alone: the objects stay
          have hstay : (∀ b cs e, it ≠ .al b cs e) → objsAt (fun j => (listed.setIfInBounds i true).getD j false) its lo = objsAt (fun j => listed.getD j false) its lo := fun hne => by
            rw [hfun]
            refine objsAt_congr its lo fun k b cs e hk => ?_
            have : Nat.beq (lo + k) i = false := by
              cases hb : Nat.beq (lo + k) i with
              | false => rfl
              | true =>
                have e1 := Nat.eq_of_beq_eq_true hb
                have : its[i - lo]? = some (.al b cs e) := by rw [← e1, Nat.add_sub_cancel_left]; exact hk
                rw [hit] at this; cases this
                exact absurd rfl (hne b cs e)
            simp only [this, Bool.or_false]
          unfold wpOp
          rw [ho]
          simp only
          cases it with
          | q p =>
            obtain ⟨g, hg, hstep⟩ := hati
            rw [wanted_of_guardOf hslo hg]
            have hst := hstay (fun _ _ _ h => by cases h)
            cases g with
            | true =>
              simp only [if_true] at hstep ⊢
              obtain ⟨h1, h2, h3⟩ := putAll_n ((seg ops lo hi).take (i - lo)) ((its.map Item.pv).take (i - lo)) σ
              have hrel : RelC w c { (pre (seg ops lo hi) (its.map Item.pv) σ (i - lo)).keep (o.looksAt ops) with H := σ.H ++ objsAt (fun j => listed.getD j false) its lo } a :=
                ⟨by simp only [AS.keep, pre, h3]; exact hmid.good, hslo⟩
              refine .inl (hstep _ (hX _) c a w _ Q' hrel fun v w2 hv hg2 hx2 => ?_)
              refine hnext v c w2 hv ?_ hx2
              rw [hst]
              simpa only [AS.keep, pre, h3] using hg2
            | false =>
              simp only [Bool.false_eq_true, if_false] at hstep ⊢
              subst hstep
              refine hnext undef c w VR_undef ?_ (Ext.refl _ _)
              rw [hst]; exact hmid.good
          | al b cs e =>
            obtain ⟨hbn, hg, hlays⟩ := hati
            rw [wanted_of_guardOf hslo hg]
            simp only [if_true]
            obtain ⟨k1, k2⟩ := objsAt_set (f := fun j => listed.getD j false) its lo (i - lo) hit (by rw [show lo + (i - lo) = i by omega]; exact hnD)
            rw [show lo + (i - lo) = i by omega] at k2
            have hgone : (σ.H ++ objsAt (fun j => listed.getD j false) its lo)[b]? = some .gone := by
              rw [hbn, List.getElem?_append_right (by omega), Nat.add_sub_cancel_left]; exact k1
            have hset : (σ.H ++ objsAt (fun j => listed.getD j false) its lo).set b (.row cs e) = σ.H ++ objsAt (fun j => (listed.setIfInBounds i true).getD j false) its lo := by
              rw [hfun, k2, hbn, List.set_append_right _ _ (by omega), Nat.add_sub_cancel_left]
            have fin : ∀ vs : Array Value, vs.size = cs.length → Leafs cs → VRs w c cs (fun i => vs[i]?) → wpAny P .any ops Q' fuel (listed.setIfInBounds i true) (a.put o.dst (.pointer (some ⟨w.heap.size, 0, none⟩))) (grow w (.cells vs e (0, 0))) := by
              intro vs hvn hlf hvr
              obtain ⟨g2, x2, hs2⟩ := alloc_at hmid.good hgone (e := e) (fr := (0, 0)) hvn (nofz_zero _) hlf hvr
              refine hnext _ _ _ ?_ (hset ▸ g2) x2
              simp only [Item.pv, VR]
              exact ⟨w.heap.size, hs2, rfl⟩
            refine .inl ?_
            rcases hlays with ⟨z, hop, hz, hzn, hzl, hcs⟩ | ⟨x, p, hop, hx, hst, hcs⟩
            · obtain ⟨zv, z1, z2, z3⟩ := run_zeroValue (w := w) hz
              refine wp_value (v := .pointer (some ⟨w.heap.size, 0, none⟩)) (w' := grow w (.cells zv.cells e (0, 0))) ?_ (fin zv.cells (by rw [← hzn]; exact z2) hzl (hcs w c _ ⟨_, _, hmid.good⟩ (z3 c)))
              simp only [execOp, hop, Instr.alloc, newVar, newRow, Sem.run_bind, z1, run_newObj, Result.andThen_ok, Sem.run_pure]; rfl
            · have hv := hslo.eval x
              rw [hx] at hv
              obtain ⟨h1, h2, h3⟩ := cells_rel hst hv
              refine wp_value (v := .pointer (some ⟨w.heap.size, 0, none⟩)) (w' := grow w (.cells (a.eval x).cells e (0, 0))) ?_ (fin _ (by rw [hcs]; exact h1) (hcs ▸ h2) (hcs ▸ h3))
              simp only [execOp, hop, Instr.box, newVar, newRow, Sem.run_bind, run_newObj, Result.andThen_ok, Sem.run_pure]; rfl

/-- all others are ahead of it, or behind it -/
def barOk (ops : Array Oper) (j : Nat) : Bool := edgesBack ops && (List.range ops.size).all fun k => Nat.beq k j || (bif Nat.blt k j then bef ops j k else bef ops k j)

theorem bar_step {P : Program} {ops : Array Oper} {j : Nat} {o : Oper} {listed : Array Bool} {a : Act} {w : World} {fuel : Nat} {Q' : Exit → Act → World → Prop} (hb : barOk ops j = true) (ho : ops[j]? = some o) (hs : listed.size = ops.size)
    (hl : ∀ k, k < ops.size → (listed.getD k false = true ↔ k < j)) (hc : Closed ops listed) (hf : left ops listed ≤ fuel)
    (h : ∀ fuel listed', listed'.size = ops.size → (∀ k, k < ops.size → (listed'.getD k false = true ↔ k < j + 1)) → Closed ops listed' → left ops listed' ≤ fuel → wpOp P ops Q' j (wpAny P .any ops Q' fuel listed') a w) :
    wpAny P .any ops Q' fuel listed a w := by
  simp only [barOk, Bool.and_eq_true] at hb
  obtain ⟨hback, hb⟩ := hb
  have hjs : j < ops.size := (Array.getElem?_eq_some_iff.1 ho).1
  have hnj : listed.getD j false = false := by
    cases h : listed.getD j false with
    | false => rfl
    | true => have := (hl j hjs).1 h; omega
  have hpos := left_pos (ops := ops) hjs hnj
  have hedge : ∀ e, e ∈ o.after → Region.binds .any e = true → listed.getD e.on false = true := fun e he hbe => by
    have hlt := edgesBack_spec hback ho (Array.mem_toList_iff.2 he) hbe
    exact (hl e.on (by omega)).2 hlt
  cases fuel with
  | zero => omega
  | succ fuel =>
    refine ⟨fun hr => ?_, fun i hi => ?_⟩
    · exfalso
      have : j ∈ Region.ready .any ops listed := by rw [ready_iff hs]; exact ⟨hnj, o, ho, hedge⟩
      rw [hr] at this; cases this
    · rw [ready_iff hs] at hi
      obtain ⟨hni, oi, hoi, hei⟩ := hi
      have his : i < ops.size := (Array.getElem?_eq_some_iff.1 hoi).1
      have hij : i = j := by
        apply Classical.byContradiction
        intro hne
        have hge : j < i := by
          rcases Nat.lt_or_ge i j with h | h
          · have := (hl i his).2 h; rw [hni] at this; cases this
          · omega
        have := List.all_eq_true.1 hb i (by simpa using his)
        simp only [Bool.or_eq_true] at this
        rcases this with h | h
        · exact hne (Nat.eq_of_beq_eq_true h)
        · have hnb : Nat.blt i j = false := by
            cases h2 : Nat.blt i j with
            | false => rfl
            | true => have := Nat.blt_eq.mp h2; omega
          rw [hnb] at h
          have := bef_listed hback hs hc hoi hei h (by omega)
          rw [hnj] at this; cases this
      subst hij
      have hsi : i < listed.size := by omega
      have hlt := left_set (ops := ops) hjs hs hnj
      refine h fuel _ (by simp [hs]) (fun k hk => ?_) (fun k o' e hk ho' he hbe => ?_) (by omega)
      · rw [getD_set_true hsi, hl k hk]; omega
      · rw [getD_set_true hsi] at hk ⊢
        rcases hk with hk | hk
        · exact .inl (hc k o' e hk ho' he hbe)
        · subst hk
          rw [ho] at ho'; cases ho'
          exact .inl (hedge e (by simpa using he) hbe)

theorem any_done {P : Program} {ops : Array Oper} {listed : Array Bool} {a : Act} {w : World} {Q' : Exit → Act → World → Prop} (hs : listed.size = ops.size) (hl : ∀ k, k < ops.size → listed.getD k false = true) (h : Q' .normal a w) :
    ∀ fuel, wpAny P .any ops Q' fuel listed a w := by
  have hr : Region.ready .any ops listed = [] := by
    apply List.eq_nil_iff_forall_not_mem.2
    intro j hj
    rw [ready_iff hs] at hj
    obtain ⟨h1, o, h2, _⟩ := hj
    have := hl j (Array.getElem?_eq_some_iff.1 h2).1
    rw [h1] at this; cases this
  intro fuel
  cases fuel with
  | zero => exact ⟨hr, h⟩
  | succ fuel => exact ⟨fun _ => h, fun i hi => by rw [hr] at hi; cases hi⟩

end Go.Ab
