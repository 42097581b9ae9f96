/- An abstract calculus over the model's weakest preconditions, part 9: a region that draws its order: where its operations are quiet, the text's order tells all. -/
import Derived.Test.YtfjikgkcleefiaaDoorAb8
namespace Go.Ab

/-! ### what comes ahead of what -/
def befF (acc : Array Nat) (o : Oper) : Nat :=
  o.after.foldl (fun s e => if Region.binds .any e then s ||| 2 ^ e.on ||| acc.getD e.on 0 else s) 0

def befL (l : List Oper) : Array Nat := l.foldl (fun acc o => acc.push (befF acc o)) #[]

theorem before_eq (ops : Array Oper) : Region.before ops = befL ops.toList := by
  unfold Region.before befL
  rw [← Array.foldl_toList]
  rfl

theorem befL_snoc (l : List Oper) (o : Oper) : befL (l ++ [o]) = (befL l).push (befF (befL l) o) := by simp [befL]

theorem befL_rev (l : List Oper) : (befL l).size = l.length ∧ ∀ j, j < l.length → ∀ r, (befL (l ++ r)).getD j 0 = (befL l).getD j 0 := by
  have size : ∀ n (l : List Oper), l.length = n → (befL l).size = l.length := by
    intro n
    induction n with
    | zero => intro l h; have := List.eq_nil_of_length_eq_zero h; subst this; rfl
    | succ n ih =>
      intro l h
      rcases List.eq_nil_or_concat l with e | ⟨l', o, e⟩
      · subst e; simp at h
      · subst e
        simp at h
        rw [List.concat_eq_append, befL_snoc, Array.size_push, ih l' h]; simp
  refine ⟨size _ l rfl, fun j hj r => ?_⟩
  have key : ∀ n (r : List Oper), r.length = n → (befL (l ++ r)).getD j 0 = (befL l).getD j 0 := by
    intro n
    induction n with
    | zero => intro r h; have := List.eq_nil_of_length_eq_zero h; subst this; simp
    | succ n ih =>
      intro r h
      rcases List.eq_nil_or_concat r with e | ⟨r', o, e⟩
      · subst e; simp at h
      · subst e
        simp at h
        rw [List.concat_eq_append, ← List.append_assoc, befL_snoc, ← ih r' h]
        have hs := size _ (l ++ r') rfl
        simp only [Array.getD_eq_getD_getElem?]
        rw [Array.getElem?_push, if_neg (by rw [hs]; simp; omega)]
  exact key _ r rfl

theorem testBit_befF {acc : Array Nat} {o : Oper} {i : Nat} (h : (befF acc o).testBit i = true) :
    ∃ e, e ∈ o.after.toList ∧ Region.binds .any e = true ∧ (e.on = i ∨ (acc.getD e.on 0).testBit i = true) := by
  unfold befF at h
  rw [← Array.foldl_toList] at h
  generalize o.after.toList = l at h
  have key : ∀ (l : List Edge) (s : Nat), (l.foldl (fun s e => if Region.binds .any e then s ||| 2 ^ e.on ||| acc.getD e.on 0 else s) s).testBit i = true →
      s.testBit i = true ∨ ∃ e, e ∈ l ∧ Region.binds .any e = true ∧ (e.on = i ∨ (acc.getD e.on 0).testBit i = true) := by
    intro l
    induction l with
    | nil => intro s h; exact .inl h
    | cons e l ih =>
      intro s h
      simp only [List.foldl_cons] at h
      rcases ih _ h with h | ⟨e', h1, h2⟩
      · by_cases hb : Region.binds .any e = true
        · rw [if_pos hb] at h
          simp only [Nat.testBit_or, Bool.or_eq_true] at h
          rcases h with (h | h) | h
          · exact .inl h
          · rw [Nat.testBit_two_pow] at h
            exact .inr ⟨e, by simp, hb, .inl (by simpa using h)⟩
          · exact .inr ⟨e, by simp, hb, .inr h⟩
        · rw [if_neg hb] at h; exact .inl h
      · exact .inr ⟨e', by simp [h1], h2⟩
  rcases key l 0 h with h | h
  · simp at h
  · exact h

/-- the direct edges lead back -/
def edgesBack (ops : Array Oper) : Bool := ops.toList.zipIdx.all fun (o, j) => o.after.toList.all fun e => !Region.binds .any e || decide (e.on < j)

theorem edgesBack_spec {ops : Array Oper} (h : edgesBack ops = true) {j : Nat} {o : Oper} (ho : ops[j]? = some o) {e : Edge} (he : e ∈ o.after.toList)
    (hb : Region.binds .any e = true) : e.on < j := by
  have := List.all_eq_true.1 h (o, j) (by rw [List.mem_zipIdx_iff_getElem?]; simpa using ho)
  have := List.all_eq_true.1 this e he
  simpa [hb] using this

def bef (ops : Array Oper) (j i : Nat) : Bool := ((Region.before ops).getD j 0).testBit i

/-- What is listed is closed under what comes ahead. -/
theorem closed_bef {ops : Array Oper} (hback : edgesBack ops = true) {D : Nat → Prop}
    (hD : ∀ j o e, D j → ops[j]? = some o → e ∈ o.after.toList → Region.binds .any e = true → D e.on) (hlt : ∀ j, D j → j < ops.size) :
    ∀ j i, D j → bef ops j i = true → D i := by
  intro j
  induction j using Nat.strongRecOn with
  | _ j ih =>
    intro i hj hb
    have hjs := hlt j hj
    have ho : ops[j]? = some ops[j] := by simp [hjs]
    have hsplit : ops.toList = (ops.toList.take j ++ [ops[j]]) ++ ops.toList.drop (j + 1) := by
      have h1 : ops.toList.take (j + 1) = ops.toList.take j ++ [ops[j]] := by
        rw [List.take_succ_eq_append_getElem (by simpa using hjs)]; simp
      rw [← h1, List.take_append_drop]
    unfold bef at hb
    rw [before_eq] at hb
    have e1 : (befL ops.toList).getD j 0 = befF (befL (ops.toList.take j)) ops[j] := by
      have h1 : (befL ops.toList).getD j 0 = (befL (ops.toList.take j ++ [ops[j]])).getD j 0 := by
        have := (befL_rev (ops.toList.take j ++ [ops[j]])).2 j (by simp; omega) (ops.toList.drop (j + 1))
        rw [← hsplit] at this; exact this
      rw [h1, befL_snoc]
      have hs := (befL_rev (ops.toList.take j)).1
      simp only [Array.getD_eq_getD_getElem?]
      have : (befL (ops.toList.take j)).size = j := by rw [hs]; simp; omega
      rw [Array.getElem?_push, if_pos this.symm]; rfl
    rw [e1] at hb
    obtain ⟨e, he, hbe, h⟩ := testBit_befF hb
    have hlt' := edgesBack_spec hback ho he hbe
    have hde := hD j _ e hj ho he hbe
    rcases h with h | h
    · exact h ▸ hde
    · refine ih e.on hlt' i hde ?_
      unfold bef
      rw [before_eq]
      have : (befL ops.toList).getD e.on 0 = (befL (ops.toList.take j)).getD e.on 0 := by
        have h2 := (befL_rev (ops.toList.take j)).2 e.on (by simp; omega) (ops.toList.drop j)
        rw [List.take_append_drop] at h2
        exact h2
      rw [this]; exact h

/-- The operations of a region that draws may be walked in the text's order: each slot is written once; who reads or writes another one's slot is ordered with it. -/
def drawOk (ops : Array Oper) : Bool :=
  edgesBack ops &&
  (List.range ops.size).all fun j =>
    match ops[j]? with
    | none => true
    | some oj => oj.dst.isSome && (oj.dst.all fun d => !(oj.looksAt ops).contains d) &&
      (List.range j).all fun i =>
        match ops[i]? with
        | none => true
        | some oi => oi.dst != oj.dst && (oi.apart ops oj || bef ops j i)

theorem drawOk_spec {ops : Array Oper} (h : drawOk ops = true) : edgesBack ops = true ∧
    (∀ (j : Nat) o, ops[j]? = some o → ∃ d, o.dst = some d ∧ d ∉ o.looksAt ops) ∧
    (∀ (i j : Nat) oi oj, i < j → ops[i]? = some oi → ops[j]? = some oj → oi.dst ≠ oj.dst ∧ (oi.apart ops oj = true ∨ bef ops j i = true)) := by
  simp only [drawOk, Bool.and_eq_true] at h
  obtain ⟨h1, h2⟩ := h
  have hj : ∀ (j : Nat) o, ops[j]? = some o → j < ops.size := fun j o ho => (Array.getElem?_eq_some_iff.1 ho).1
  refine ⟨h1, fun j o ho => ?_, fun i j oi oj hij hi hj' => ?_⟩
  · have := List.all_eq_true.1 h2 j (by simp [hj j o ho])
    rw [ho] at this
    simp only [Bool.and_eq_true] at this
    obtain ⟨⟨ha, hb⟩, _⟩ := this
    obtain ⟨d, hd⟩ := Option.isSome_iff_exists.1 ha
    rw [hd] at hb
    exact ⟨d, hd, by simpa using hb⟩
  · have := List.all_eq_true.1 h2 j (by simp [hj j oj hj'])
    rw [hj'] at this
    simp only [Bool.and_eq_true] at this
    have := List.all_eq_true.1 this.2 i (by simp [hij])
    rw [hi] at this
    simp only [Bool.and_eq_true, Bool.or_eq_true] at this
    exact ⟨by simpa using this.1, this.2⟩

/-- The frame behind the first operations, in the text's order. -/
def putAll : List Oper → List PV → AS → AS
  | o :: os, p :: ps, σ => putAll os ps (σ.put o.dst p)
  | _, _, σ => σ

/-- What is to be shown of the operations, one by one: each from the slots that it looks at. -/
def Quiets (P : Program) (ops : Array Oper) : List Oper → List PV → AS → Prop
  | o :: os, p :: ps, σ => (∃ g, guardOf ops (σ.keep (o.looksAt ops)) o = some g ∧
      (if g = true then QStep P o (σ.keep (o.looksAt ops)) p else p = .tup [])) ∧ Quiets P ops os ps (σ.put o.dst p)
  | [], [], _ => True
  | _, _, _ => False

def pre (l : List Oper) (ps : List PV) (σ : AS) (i : Nat) : AS := putAll (l.take i) (ps.take i) σ

theorem quiets_at {P : Program} {ops : Array Oper} : ∀ {l : List Oper} {ps : List PV} {σ : AS}, Quiets P ops l ps σ → l.length = ps.length ∧
    ∀ (i : Nat) o p, l[i]? = some o → ps[i]? = some p → ∃ g, guardOf ops ((pre l ps σ i).keep (o.looksAt ops)) o = some g ∧
      (if g = true then QStep P o ((pre l ps σ i).keep (o.looksAt ops)) p else p = .tup [])
  | [], [], _, _ => ⟨rfl, fun i o p h => by simp at h⟩
  | o :: os, p :: ps, σ, h => by
    obtain ⟨h1, h2⟩ := h
    obtain ⟨hl, ih⟩ := quiets_at h2
    refine ⟨by simp [hl], fun i o' p' ho hp => ?_⟩
    cases i with
    | zero => simp at ho hp; subst ho; subst hp; exact h1
    | succ i =>
      have := ih i o' p' (by simpa using ho) (by simpa using hp)
      simpa [pre, putAll] using this
  | [], _ :: _, _, h => h.elim
  | _ :: _, [], _, h => h.elim

theorem putAll_n : ∀ (l : List Oper) (ps : List PV) (σ : AS), (putAll l ps σ).n = σ.n ∧ (putAll l ps σ).H = σ.H ∧ (putAll l ps σ).ts = σ.ts
  | [], ps, σ => by cases ps <;> exact ⟨rfl, rfl, rfl⟩
  | o :: l, [], σ => ⟨rfl, rfl, rfl⟩
  | o :: l, p :: ps, σ => by
    obtain ⟨h1, h2, h3⟩ := putAll_n l ps (σ.put o.dst p)
    cases hd : o.dst <;> simp only [putAll, hd, AS.put] at h1 h2 h3 ⊢ <;> exact ⟨h1, h2, h3⟩

theorem get_put_same (σ : AS) (d : Nat) (p : PV) (h : d < σ.n) : (σ.put (some d) p).get d = p := by
  simp only [AS.put, AS.get, look, Nat.beq_refl, cond_true, Option.getD_some]
  rw [show Nat.blt d σ.n = true from Nat.blt_eq.mpr h]; rfl

theorem get_put_ne (σ : AS) (d t : Nat) (p : PV) (h : d ≠ t) : (σ.put (some d) p).get t = σ.get t := by
  simp only [AS.put, AS.get, look]
  have : Nat.beq d t = false := by
    cases hb : Nat.beq d t with
    | false => rfl
    | true => exact absurd (Nat.eq_of_beq_eq_true hb) h
  rw [this]; rfl

theorem get_ge (σ : AS) (t : Nat) (h : ¬ t < σ.n) : σ.get t = .dead := by
  have : Nat.blt t σ.n = false := by
    cases hb : Nat.blt t σ.n with
    | false => rfl
    | true => exact absurd (Nat.blt_eq.mp hb) h
  simp [AS.get, this]

/-- A slot behind some operations: what its writer laid there, or what was there. -/
theorem putAll_get : ∀ (l : List Oper) (ps : List PV) (σ : AS) (t : Nat), l.length = ps.length → t < σ.n →
    (∃ (j : Nat) (o : Oper) (p : PV), l[j]? = some o ∧ ps[j]? = some p ∧ o.dst = some t ∧ (putAll l ps σ).get t = p) ∨ ((∀ (j : Nat) o, l[j]? = some o → o.dst ≠ some t) ∧ (putAll l ps σ).get t = σ.get t)
  | [], [], σ, t, _, _ => .inr ⟨fun j o h => by simp at h, rfl⟩
  | o :: l, p :: ps, σ, t, hl, ht => by
    have hn : t < (σ.put o.dst p).n := by cases o.dst <;> exact ht
    rcases putAll_get l ps (σ.put o.dst p) t (by simpa using hl) hn with ⟨j, o', p', h1, h2, h3, h4⟩ | ⟨h1, h2⟩
    · exact .inl ⟨j + 1, o', p', by simpa using h1, by simpa using h2, h3, h4⟩
    · by_cases hd : o.dst = some t
      · refine .inl ⟨0, o, p, rfl, rfl, hd, ?_⟩
        simp only [putAll]
        rw [h2, hd, get_put_same _ _ _ ht]
      · refine .inr ⟨fun j o' h => ?_, ?_⟩
        · cases j with
          | zero => simp at h; subst h; exact hd
          | succ j => exact h1 j o' (by simpa using h)
        · simp only [putAll]
          rw [h2]
          cases hdd : o.dst with
          | none => rfl
          | some d => exact get_put_ne _ _ _ _ (fun e => hd (by rw [hdd, e]))
  | [], _ :: _, _, _, hl, _ => by simp at hl
  | _ :: _, [], _, _, hl, _ => by simp at hl

/-- how matters stand when the operations of D are done -/
structure Mid (ops : Array Oper) (ps : List PV) (σ : AS) (c : Cx) (D : Nat → Prop) (a : Act) (w : World) : Prop where
  good : Good w c σ.H σ.ts
  size : a.tmps.size = σ.n
  old : ∀ t, t < σ.n → (∀ (j : Nat) o, D j → ops[j]? = some o → o.dst ≠ some t) → VR w c (σ.get t) (a.tmps.getD t undef)
  new : ∀ (j : Nat) o p t, D j → ops[j]? = some o → ps[j]? = some p → o.dst = some t → t < σ.n → VR w c p (a.tmps.getD t undef)
  closed : ∀ (j : Nat) o e, D j → ops[j]? = some o → e ∈ o.after.toList → Region.binds .any e = true → D e.on
  lt : ∀ j, D j → j < ops.size

theorem getD_put (a : Act) (d t : Nat) (v : Value) (hd : d < a.tmps.size) : (a.put (some d) v).tmps.getD t undef = if d = t then v else a.tmps.getD t undef := by
  simp only [Act.put, Array.getD_eq_getD_getElem?]
  by_cases h : d = t
  · subst h; rw [if_pos rfl, Array.getElem?_setIfInBounds_self_of_lt hd]; rfl
  · rw [if_neg h, Array.getElem?_setIfInBounds_ne h]

theorem AW.draw {P : Program} {id : Nat} {ops : Array Oper} {σ : AS} {Q : Exit → AS → Prop} (ps : List PV) (hm : P.follows .mixedOrders = true) (hok : drawOk ops = true)
    (hdn : ∀ o, o ∈ ops.toList → o.dst.all (fun d => decide (d < σ.n)) = true)
    (hq : Quiets P ops ops.toList ps σ) (hQ : Q .normal (putAll ops.toList ps σ)) : AW P (.region id ops true) σ Q := by
  intro c a w Q' hrel hK
  obtain ⟨hback, hdst, hpair⟩ := drawOk_spec hok
  obtain ⟨hlen, hat⟩ := quiets_at hq
  refine wp_region_any hm ?_
  have hx0 := quiet_drew hrel.1 (w.drawn + 1)
  -- the induction
  have key : ∀ (fuel : Nat) (listed : Array Bool) (a' : Act) (w' : World), listed.size = ops.size →
      Mid ops ps σ c (fun j => listed.getD j false = true) a' w' → Ext w c w' c → a'.defers = a.defers →
      (fuel = 0 → Region.ready .any ops listed = []) → ((List.range ops.size).filter (fun j => !listed.getD j false)).length ≤ fuel →
      wpAny P .any ops Q' fuel listed a' w' := by
    intro fuel
    have fin : ∀ (listed : Array Bool) (a' : Act) (w' : World), listed.size = ops.size →
        Mid ops ps σ c (fun j => listed.getD j false = true) a' w' → Ext w c w' c → a'.defers = a.defers → Region.ready .any ops listed = [] → Q' .normal a' w' := by
      intro listed a' w' hsz hmid hx hd hr
      -- all are listed
      have hall : ∀ j, j < ops.size → listed.getD j false = true := by
        intro j
        induction j using Nat.strongRecOn with
        | _ j ih =>
          intro hj
          cases hl : listed.getD j false with
          | true => rfl
          | false =>
            have : j ∈ Region.ready .any ops listed := by
              rw [mem_ready]
              refine ⟨?_, ops[j], by simp [hj], fun e he hb => ?_⟩
              · have : j < listed.size := by omega
                simp only [Array.getD_eq_getD_getElem?, Array.getElem?_eq_getElem this, Option.getD_some] at hl ⊢
                exact hl
              · have hlt := edgesBack_spec hback (o := ops[j]) (Array.getElem?_eq_getElem hj) (Array.mem_toList_iff.2 he) hb
                exact ih e.on hlt (by omega)
            rw [hr] at this; cases this
      refine hK .normal c a' w' _ hQ ⟨?_, ?_⟩ hx hd
      · obtain ⟨h1, h2, h3⟩ := putAll_n ops.toList ps σ
        rw [h2, h3]; exact hmid.good
      · obtain ⟨h1, h2, h3⟩ := putAll_n ops.toList ps σ
        refine ⟨by rw [h1]; exact hmid.size, fun t p hl ht => ?_⟩
        rw [h1] at ht
        have hg : (putAll ops.toList ps σ).get t = p := by
          simp only [AS.get, h1, Nat.blt_eq.mpr ht, cond_true, hl, Option.getD_some]
        have hts : t < a'.tmps.size := by rw [hmid.size]; exact ht
        refine ⟨a'.tmps[t], by simp [hts], ?_⟩
        have hgd : a'.tmps.getD t undef = a'.tmps[t] := by simp [Array.getD_eq_getD_getElem?, hts]
        rw [← hgd]
        rcases putAll_get ops.toList ps σ t hlen ht with ⟨j, o, p', h4, h5, h6, h7⟩ | ⟨h4, h5⟩
        · rw [← hg, h7]
          have ho : ops[j]? = some o := by simpa using h4
          exact hmid.new j o p' t (hall j (Array.getElem?_eq_some_iff.1 ho).1) ho h5 h6 ht
        · rw [← hg, h5]
          exact hmid.old t ht (fun j o _ ho => h4 j o (by simpa using ho))
    induction fuel with
    | zero =>
      intro listed a' w' hsz hmid hx hd h0 _
      exact ⟨h0 rfl, fin listed a' w' hsz hmid hx hd (h0 rfl)⟩
    | succ fuel ih =>
      intro listed a' w' hsz hmid hx hd _ hcount
      refine ⟨fin listed a' w' hsz hmid hx hd, fun i hi => ?_⟩
      rw [mem_ready] at hi
      obtain ⟨hnl, o, ho, hedges⟩ := hi
      have hil : i < ops.size := (Array.getElem?_eq_some_iff.1 ho).1
      have hnD : listed.getD i false = false := by
        have : i < listed.size := by omega
        simp only [Array.getD_eq_getD_getElem?, Array.getElem?_eq_getElem this, Option.getD_some] at hnl ⊢
        exact hnl
      have hp : ∃ p, ps[i]? = some p := by
        have : i < ps.length := by rw [← hlen]; simpa using hil
        exact ⟨ps[i], by simp [this]⟩
      obtain ⟨p, hp⟩ := hp
      obtain ⟨g, hg, hstep⟩ := hat i o p (by simpa using ho) hp
      obtain ⟨d, hdd, hdl⟩ := hdst i o ho
      have hdlt : d < σ.n := by
        have := hdn o (by simpa using Array.mem_toList_iff.2 (Array.mem_of_getElem? ho))
        rw [hdd] at this; simpa using this
      have hclosed := closed_bef hback hmid.closed hmid.lt
      -- the slots that the operation looks at
      have hrelo : RelC w' c ((pre ops.toList ps σ i).keep (o.looksAt ops)) a' := by
        obtain ⟨h1, h2, h3⟩ := putAll_n (ops.toList.take i) (ps.take i) σ
        refine ⟨by simp only [AS.keep, pre, h2, h3]; exact hmid.good, by simp only [AS.keep, pre, h1]; exact hmid.size, fun t q hl ht => ?_⟩
        simp only [AS.keep, pre, h1] at ht
        have hq' := look_keep _ _ _ _ hl
        have hmem : t ∈ o.looksAt ops := by
          simp only [AS.keep] at hl
          clear hq' hat hq hK hclosed hmid hstep hg
          generalize o.looksAt ops = L at hl
          induction L with
          | nil => simp [look] at hl
          | cons s L ihL =>
            simp only [List.map_cons, look] at hl
            cases hb : Nat.beq s t with
            | true => rw [Nat.eq_of_beq_eq_true hb]; simp
            | false => rw [hb] at hl; simp [ihL (by simpa using hl)]
        have hts : t < a'.tmps.size := by rw [hmid.size]; exact ht
        refine ⟨a'.tmps[t], by simp [hts], ?_⟩
        have hgd : a'.tmps.getD t undef = a'.tmps[t] := by simp [Array.getD_eq_getD_getElem?, hts]
        rw [← hgd, ← hq']
        have hlen' : (ops.toList.take i).length = (ps.take i).length := by simp; rw [← hlen]; simp
        rcases putAll_get (ops.toList.take i) (ps.take i) σ t hlen' ht with ⟨j, oj, pj, h4, h5, h6, h7⟩ | ⟨h4, h5⟩
        · have hji : j < i := by
            have := (List.getElem?_eq_some_iff.1 h4).1; simp at this; omega
          have hoj : ops[j]? = some oj := by
            rw [List.getElem?_take, if_pos hji] at h4; simpa using h4
          have hpj : ps[j]? = some pj := by
            rw [List.getElem?_take, if_pos hji] at h5; exact h5
          have : bef ops i j = true := by
            rcases (hpair j i oj o hji hoj ho).2 with hap | hb
            · exact absurd hmem ((Oper.apart_spec hap).1 t h6)
            · exact hb
          -- j is ahead of i: it is listed, since i's edges are
          have hDj : listed.getD j false = true := by
            have hD' : ∀ (j : Nat) o' e, (listed.getD j false = true ∨ j = i) → ops[j]? = some o' → e ∈ o'.after.toList → Region.binds .any e = true →
                (listed.getD e.on false = true ∨ e.on = i) := by
              intro j o' e hj ho' he hb
              rcases hj with hj | hj
              · exact .inl (hmid.closed j o' e hj ho' he hb)
              · subst hj
                rw [ho] at ho'; cases ho'
                exact .inl (hedges e (by simpa using he) hb)
            have := closed_bef hback (D := fun j => listed.getD j false = true ∨ j = i) hD' (fun j hj => hj.elim (hmid.lt j) (fun e => e ▸ hil)) i j (.inr rfl) this
            rcases this with h | h
            · exact h
            · omega
          rw [show (pre ops.toList ps σ i).get t = pj from h7]
          exact hmid.new j oj pj t hDj hoj hpj h6 ht
        · rw [show (pre ops.toList ps σ i).get t = σ.get t from h5]
          refine hmid.old t ht (fun j oj hDj hoj he => ?_)
          by_cases hji : j < i
          · exact h4 j oj (by rw [List.getElem?_take, if_pos hji]; simpa using hoj) he
          · rcases Nat.lt_or_ge i j with hij | hij
            · rcases (hpair i j o oj hij ho hoj).2 with hap | hb
              · exact absurd hmem ((Oper.apart_spec hap).2.2 t he)
              · have := hclosed j i hDj hb
                rw [hnD] at this; cases this
            · have : j = i := by omega
              subst this
              rw [hnD] at hDj; cases hDj
      -- behind the operation
      have hnext : ∀ v w2, VR w2 c p v → Good w2 c σ.H σ.ts → Ext w' c w2 c → wpAny P .any ops Q' fuel (listed.setIfInBounds i true) (a'.put o.dst v) w2 := by
        intro v w2 hv hg2 hx2
        have hget : ∀ j, (listed.setIfInBounds i true).getD j false = true ↔ listed.getD j false = true ∨ j = i := by
          intro j
          by_cases hji : i = j
          · subst hji
            simp only [Array.getD_eq_getD_getElem?, Array.getElem?_setIfInBounds_self_of_lt (show i < listed.size by omega), Option.getD_some]; simp
          · rw [getD_set_ne false hji]
            exact ⟨fun h => .inl h, fun h => h.resolve_right (fun e => hji e.symm)⟩
        have hds : d < a'.tmps.size := by rw [hmid.size]; exact hdlt
        refine ih _ _ _ (by simp [hsz]) ?_ (hx.trans hx2) ((Act.put_defers' _ _ _).trans hd) ?_ ?_
        · refine ⟨hg2, ?_, ?_, ?_, ?_, ?_⟩
          · rw [hdd]; simp only [Act.put, Array.size_setIfInBounds]; exact hmid.size
          · intro t ht hno
            rw [hdd, getD_put _ _ _ _ hds]
            have hne : d ≠ t := fun e => hno i o ((hget i).2 (.inr rfl)) ho (by rw [hdd, e])
            rw [if_neg hne]
            exact (hmid.old t ht (fun j oj hDj => hno j oj ((hget j).2 (.inl hDj)))).ext hx2
          · intro j oj pj t hDj hoj hpj hjt ht
            rw [hdd, getD_put _ _ _ _ hds]
            by_cases hji : j = i
            · subst hji
              rw [ho] at hoj; cases hoj
              rw [hdd] at hjt; cases hjt
              rw [if_pos rfl]
              rw [hp] at hpj; cases hpj
              exact hv
            · have hne : d ≠ t := by
                intro e
                subst e
                rcases Nat.lt_or_ge j i with h | h
                · exact (hpair j i oj o h hoj ho).1 (by rw [hjt, hdd])
                · exact (hpair i j o oj (by omega) ho hoj).1 (by rw [hjt, hdd])
              rw [if_neg hne]
              exact (hmid.new j oj pj t (((hget j).1 hDj).resolve_right hji) hoj hpj hjt ht).ext hx2
          · intro j oj e hDj hoj he hb
            rcases (hget j).1 hDj with h | h
            · exact (hget _).2 (.inl (hmid.closed j oj e h hoj he hb))
            · subst h
              rw [ho] at hoj; cases hoj
              exact (hget _).2 (.inl (hedges e (by simpa using he) hb))
          · intro j hDj
            rcases (hget j).1 hDj with h | h
            · exact hmid.lt j h
            · subst h; exact hil
        · intro hf
          subst hf
          -- no fuel: nothing else was left
          have hlen1 : ((List.range ops.size).filter (fun j => !listed.getD j false)).length ≤ 1 := hcount
          apply List.eq_nil_iff_forall_not_mem.2
          intro j hj
          rw [mem_ready] at hj
          obtain ⟨hjn, oj, hoj, _⟩ := hj
          have hjl : j < ops.size := (Array.getElem?_eq_some_iff.1 hoj).1
          have hjD : (listed.setIfInBounds i true).getD j false = false := by
            have : j < (listed.setIfInBounds i true).size := by simp; omega
            simp only [Array.getD_eq_getD_getElem?, Array.getElem?_eq_getElem this, Option.getD_some] at hjn ⊢
            exact hjn
          have hji : j ≠ i := fun e => by
            have := (hget j).2 (.inr e); rw [hjD] at this; cases this
          have hjl' : listed.getD j false = false := by
            cases h : listed.getD j false with
            | false => rfl
            | true => have := (hget j).2 (.inl h); rw [hjD] at this; cases this
          have hmi : i ∈ (List.range ops.size).filter (fun j => !listed.getD j false) := by simp only [List.mem_filter, List.mem_range, hnD]; exact ⟨hil, rfl⟩
          have hmj : j ∈ (List.range ops.size).filter (fun j => !listed.getD j false) := by simp only [List.mem_filter, List.mem_range, hjl']; exact ⟨hjl, rfl⟩
          generalize (List.range ops.size).filter (fun j => !listed.getD j false) = L at hlen1 hmi hmj
          match L, hlen1 with
          | [], _ => cases hmi
          | [x], _ => simp at hmi hmj; omega
        · -- one less is left
          have : ((List.range ops.size).filter (fun j => !(listed.setIfInBounds i true).getD j false)).length < ((List.range ops.size).filter (fun j => !listed.getD j false)).length := by
            have e : (List.range ops.size).filter (fun j => !(listed.setIfInBounds i true).getD j false) =
                ((List.range ops.size).filter (fun j => !listed.getD j false)).filter (fun j => decide (j ≠ i)) := by
              rw [List.filter_filter]
              apply List.filter_congr
              intro j _
              by_cases hji : j = i
              · subst hji
                have := (hget j).2 (.inr rfl)
                rw [this]; simp
              · cases h : listed.getD j false with
                | true => rw [(hget j).2 (.inl h)]; simp
                | false =>
                  have : (listed.setIfInBounds i true).getD j false = false := by
                    cases h2 : (listed.setIfInBounds i true).getD j false with
                    | false => rfl
                    | true => exact absurd (((hget j).1 h2).resolve_right hji) (by rw [h]; simp)
                  rw [this]; simp [hji]
            rw [e]
            refine List.length_filter_lt_length_iff_exists.2 ⟨i, ?_, by simp⟩
            simp only [List.mem_filter, List.mem_range, hnD]; exact ⟨hil, rfl⟩
          omega
      unfold wpOp
      rw [ho]
      simp only
      rw [wanted_of_guardOf hrelo.2 hg]
      cases g with
      | true =>
        simp only [if_true] at hstep ⊢
        refine .inl (hstep c a' w' _ Q' hrelo fun v w2 hv hg2 hx2 => ?_)
        obtain ⟨h1, h2, h3⟩ := putAll_n (ops.toList.take i) (ps.take i) σ
        exact hnext v w2 hv (by simpa only [AS.keep, pre, h2, h3] using hg2) hx2
      | false =>
        simp only [Bool.false_eq_true, if_false] at hstep ⊢
        subst hstep
        exact hnext undef w' VR_undef hmid.good (Ext.refl _ _)
  refine key ops.size _ a { w with drawn := w.drawn + 1 } (by simp) ?_ hx0.2 rfl ?_ ?_
  · refine ⟨hx0.1, hrel.2.1, fun t ht _ => ?_, fun j o p t hD => ?_, fun j o e hD => ?_, fun j hD => ?_⟩
    · have := hrel.2.eval (.tmp t)
      simp only [AS.eval, Act.eval] at this
      exact this.ext hx0.2
    all_goals
      simp only [Array.getD_eq_getD_getElem?, Array.getElem?_replicate] at hD
      split at hD <;> simp at hD
  · intro h0
    apply List.eq_nil_iff_forall_not_mem.2
    intro j hj
    rw [mem_ready] at hj
    obtain ⟨_, oj, hoj, _⟩ := hj
    have := (Array.getElem?_eq_some_iff.1 hoj).1
    omega
  · refine Nat.le_trans (List.length_filter_le _ _) ?_
    simp

theorem Quiets.q {P : Program} {ops : Array Oper} {o : Oper} {os : List Oper} {p : PV} {ps : List PV} {σ : AS} (hg : guardOf ops (σ.keep (o.looksAt ops)) o = some true)
    (h : QStep P o (σ.keep (o.looksAt ops)) p) (hr : Quiets P ops os ps (σ.put o.dst p)) : Quiets P ops (o :: os) (p :: ps) σ := ⟨⟨true, hg, by simpa using h⟩, hr⟩

theorem Quiets.no {P : Program} {ops : Array Oper} {o : Oper} {os : List Oper} {ps : List PV} {σ : AS} (hg : guardOf ops (σ.keep (o.looksAt ops)) o = some false)
    (hr : Quiets P ops os ps (σ.put o.dst (.tup []))) : Quiets P ops (o :: os) (.tup [] :: ps) σ := ⟨⟨false, hg, by simp⟩, hr⟩

theorem Quiets.nil {P : Program} {ops : Array Oper} {σ : AS} : Quiets P ops [] [] σ := trivial

def dstsLt (ops : Array Oper) (n : Nat) : Bool := ops.toList.all fun o => o.dst.all (fun d => decide (d < n))

theorem AW.drw {P : Program} {id : Nat} {ops : Array Oper} {σ : AS} {Q : Exit → AS → Prop} {n : Nat} (ps : List PV) (hm : P.follows .mixedOrders = true) (hn : σ.n = n) (hok : drawOk ops = true)
    (hdn : dstsLt ops n = true) (hq : Quiets P ops ops.toList ps σ) (hQ : Q .normal (putAll ops.toList ps σ)) : AW P (.region id ops true) σ Q :=
  AW.draw ps hm hok (fun o ho => by rw [hn]; exact List.all_eq_true.1 hdn o ho) hq hQ

end Go.Ab
