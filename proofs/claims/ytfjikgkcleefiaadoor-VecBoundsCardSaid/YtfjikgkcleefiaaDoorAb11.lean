/- An abstract calculus over the model's weakest preconditions, part 11: append, as a step. -/
import Derived.Test.YtfjikgkcleefiaaDoorAb10
namespace Go.Ab

theorem get_snoc {α : Type} (l : List α) (x : α) (i : Nat) (y : α) (h : (l ++ [x])[i]? = some y) : l[i]? = some y ∨ (i = l.length ∧ y = x) := by
  by_cases hi : i < l.length
  · rw [List.getElem?_append_left hi] at h; exact .inl h
  · rw [List.getElem?_append_right (Nat.le_of_not_lt hi)] at h
    have : i - l.length = 0 := by
      rcases Nat.eq_zero_or_pos (i - l.length) with e | e
      · exact e
      · rw [List.getElem?_eq_none (by simp; omega)] at h; cases h
    rw [this] at h; simp at h
    exact .inr ⟨by omega, h.symm⟩

/-- A new block whose end is free. -/
theorem alloc_tok {w : World} {c : Cx} {H : List AObj} {ts : List Bool} (g : Good w c H ts) {vs : Array Value} {e : TypeId} {fr : Nat × Nat} (hf : nofz fr vs.size) {j : Nat} (hj : j ≤ vs.size) :
    Good (grow w (.cells vs e fr)) { c with T := c.T ++ [some (w.heap.size, j)] } H (ts ++ [true]) ∧
      Ext w c (grow w (.cells vs e fr)) { c with T := c.T ++ [some (w.heap.size, j)] } := by
  have hold : ∀ i k j' : Nat, (c.T ++ [some (w.heap.size, j)])[i]? = some (some (k, j')) → c.T[i]? = some (some (k, j')) ∨ (i = c.T.length ∧ k = w.heap.size ∧ j' = j) := fun i k j' h => by
    rcases get_snoc _ _ _ _ h with h | ⟨h1, h2⟩
    · exact .inl h
    · simp at h2; exact .inr ⟨h1, h2.1, h2.2⟩
  have x : Ext w c (grow w (.cells vs e fr)) { c with T := c.T ++ [some (w.heap.size, j)] } :=
    { os := rfl, tape := rfl, output := rfl, size := by simp [grow]
      ids := fun _ _ h => h, new := fun _ h => .inl h
      blocks := fun k hk _ _ => grow_old w _ k hk
      cells := fun k hk _ off v _ hv => by rw [cell_of_block (grow_old w _ k hk)]; exact hv
      toks := fun i k j' h => by
        rcases hold i k j' h with h | ⟨_, h, _⟩
        · exact .inr ⟨i, j', h, Nat.le_refl _⟩
        · exact .inl (Nat.le_of_eq h.symm)
      stay := fun i k j' hi h => by
        rcases hold i k j' h with h | ⟨h, _, _⟩
        · exact ⟨h, grow_old w _ k (g.tlt h)⟩
        · omega
      tlen := by simp
      ok := rfl }
  refine ⟨{ len := g.len, inj := g.inj, obj := ?_, tl := by simp [g.tl], tal := ?_, tdead := ?_, tok := ?_, tinj := ?_, okn := fun k e h => g.okn k e (Nat.le_trans x.size h), okm := g.okm, okt := ?_ }, x⟩
  · intro b o h
    have ho := g.obj b o h
    cases o with
    | row cs' e' =>
      obtain ⟨k, vs', fr', h1, h2, hf', h3, hl', h4⟩ := ho
      exact ⟨k, vs', fr', h1, (grow_old w _ k (ObjC.lt g h1)).trans h2, hf', h3, hl', VRs.ext x cs' (fun _ _ _ e => e) h4⟩
    | raw o =>
      obtain ⟨k, h1, h2⟩ := ho
      exact ⟨k, h1, (grow_old w _ k (ObjC.lt g h1)).trans h2⟩
    | gone => exact ho
  · intro i h
    rcases get_snoc _ _ _ _ h with h | ⟨h, _⟩
    · obtain ⟨k, j', h⟩ := g.tal i h
      exact ⟨k, j', by show (c.T ++ _)[i]? = _; rw [List.getElem?_append_left (List.getElem?_eq_some_iff.1 h).1]; exact h⟩
    · subst h
      refine ⟨w.heap.size, j, ?_⟩
      show (c.T ++ _)[ts.length]? = _
      rw [← g.tl]; simp
  · intro i h
    rcases get_snoc _ _ _ _ h with h | ⟨_, h⟩
    · have := g.tdead i h
      show (c.T ++ _)[i]? = _
      rw [List.getElem?_append_left (List.getElem?_eq_some_iff.1 this).1]; exact this
    · cases h
  · intro i k j' h
    rcases hold i k j' h with h | ⟨_, rfl, rfl⟩
    · obtain ⟨h1, vs', e', fr', h2, h3⟩ := g.tok i k j' h
      exact ⟨h1, vs', e', fr', (grow_old w _ k (g.tlt h)).trans h2, h3⟩
    · exact ⟨fun h => absurd (g.mlt h) (Nat.lt_irrefl _), vs, e, fr, grow_new w _, hf, hj⟩
  · intro i i' k j1 j2 h1 h2
    rcases hold i k j1 h1 with h1 | ⟨e1, e2, _⟩ <;> rcases hold i' k j2 h2 with h2 | ⟨e3, e4, _⟩
    · exact g.tinj i i' k j1 j2 h1 h2
    · have := g.tlt h1; omega
    · have := g.tlt h2; omega
    · omega
  · intro i k j' h
    rcases hold i k j' h with h | ⟨_, rfl, _⟩
    · exact g.okt i k j' h
    · exact fun e => g.okn _ e (Nat.le_refl _)

/-- The free end of a token's block is filled. -/
theorem fill_tok {w w' : World} {c : Cx} {H : List AObj} {ts : List Bool} (g : Good w c H ts) {i k j d : Nat} (hi : c.T[i]? = some (some (k, j))) {vs vs' : Array Value} {e : TypeId} {fr : Nat × Nat}
    (h : w.heap[k]? = some (.cells vs e fr)) (hf : nofz fr vs.size) (h' : w'.heap[k]? = some (.cells vs' e fr)) (hs : vs'.size = vs.size) (hd : j + d ≤ vs.size)
    (hold : ∀ n, n < j → vs'[n]? = vs[n]?) (hoth : ∀ k' : Nat, k' ≠ k → w'.heap[k']? = w.heap[k']?) (hsz : w'.heap.size = w.heap.size) (hos : w'.os = w.os) (htp : w'.tape = w.tape)
    (hout : w'.output = w.output) :
    Good w' { c with T := c.T.set i none ++ [some (k, j + d)] } H (ts.set i false ++ [true]) ∧ Ext w c w' { c with T := c.T.set i none ++ [some (k, j + d)] } := by
  have hilt : i < c.T.length := (List.getElem?_eq_some_iff.1 hi).1
  have hT : ∀ n k' j' : Nat, (c.T.set i none ++ [some (k, j + d)])[n]? = some (some (k', j')) → (n ≠ i ∧ c.T[n]? = some (some (k', j'))) ∨ (n = c.T.length ∧ k' = k ∧ j' = j + d) := fun n k' j' h => by
    rcases get_snoc _ _ _ _ h with h | ⟨h1, h2⟩
    · by_cases hn : i = n
      · subst hn; rw [List.getElem?_set_self hilt] at h; cases h
      · rw [List.getElem?_set_ne hn] at h; exact .inl ⟨fun e => hn e.symm, h⟩
    · simp at h2; exact .inr ⟨by simpa using h1, h2.1, h2.2⟩
  have hkm := (g.tok i k j hi).1
  have hne : ∀ n k' j', n ≠ i → c.T[n]? = some (some (k', j')) → k' ≠ k := fun n k' j' hn hn' e => hn (g.tinj n i k j' j (e ▸ hn') hi)
  have hmne : ∀ (b k' : Nat), c.m[b]? = some (some k') → k' ≠ k := fun b k' hb e => hkm (List.mem_iff_getElem?.2 ⟨b, e ▸ hb⟩)
  have x : Ext w c w' { c with T := c.T.set i none ++ [some (k, j + d)] } :=
    { os := hos, tape := htp, output := hout, size := Nat.le_of_eq hsz.symm
      ids := fun _ _ h => h, new := fun _ h => .inl h
      blocks := fun k' _ _ ht => hoth k' (fun e => ht i j (e ▸ hi))
      cells := fun k' _ _ off v ht hv => by
        by_cases hk : k' = k
        · subst hk
          have := ht i j hi
          rw [cell_row h] at hv
          rw [cell_row h', hold off this]; exact hv
        · rw [cell_of_block (hoth k' hk)]; exact hv
      toks := fun n k' j' h => by
        rcases hT n k' j' h with ⟨_, h⟩ | ⟨_, rfl, rfl⟩
        · exact .inr ⟨n, j', h, Nat.le_refl _⟩
        · exact .inr ⟨i, j, hi, Nat.le_add_right _ _⟩
      stay := fun n k' j' hn h => by
        rcases hT n k' j' h with ⟨hni, h⟩ | ⟨h, _⟩
        · exact ⟨h, hoth k' (hne n k' j' hni h)⟩
        · omega
      tlen := by simp
      ok := rfl }
  refine ⟨{ len := g.len, inj := g.inj, obj := ?_, tl := by simp [g.tl], tal := ?_, tdead := ?_, tok := ?_, tinj := ?_, okn := fun k e h => g.okn k e (hsz ▸ h), okm := g.okm, okt := ?_ }, x⟩
  · intro b o hb
    have ho := g.obj b o hb
    cases o with
    | row cs' e' =>
      obtain ⟨k', vs', fr', h1, h2, hf', h3, hl', h4⟩ := ho
      exact ⟨k', vs', fr', h1, (hoth k' (hmne b k' h1)).trans h2, hf', h3, hl', VRs.ext x cs' (fun _ _ _ e => e) h4⟩
    | raw o =>
      obtain ⟨k', h1, h2⟩ := ho
      exact ⟨k', h1, (hoth k' (hmne b k' h1)).trans h2⟩
    | gone => exact ho
  · intro n hn
    rcases get_snoc _ _ _ _ hn with hn | ⟨hn, _⟩
    · by_cases hni : i = n
      · subst hni
        have : i < ts.length := by rw [← g.tl]; exact hilt
        rw [List.getElem?_set_self this] at hn; cases hn
      · rw [List.getElem?_set_ne hni] at hn
        obtain ⟨k', j', h⟩ := g.tal n hn
        refine ⟨k', j', ?_⟩
        show (c.T.set i none ++ _)[n]? = _
        rw [List.getElem?_append_left (by simp; exact (List.getElem?_eq_some_iff.1 h).1), List.getElem?_set_ne hni]; exact h
    · refine ⟨k, j + d, ?_⟩
      show (c.T.set i none ++ _)[n]? = _
      rw [hn]; simp [← g.tl]
  · intro n hn
    rcases get_snoc _ _ _ _ hn with hn | ⟨_, hn⟩
    · show (c.T.set i none ++ _)[n]? = _
      by_cases hni : i = n
      · subst hni
        rw [List.getElem?_append_left (by simp; exact hilt), List.getElem?_set_self hilt]
      · rw [List.getElem?_set_ne hni] at hn
        have := g.tdead n hn
        rw [List.getElem?_append_left (by simp; exact (List.getElem?_eq_some_iff.1 this).1), List.getElem?_set_ne hni]; exact this
    · cases hn
  · intro n k' j' hn
    rcases hT n k' j' hn with ⟨hni, hn⟩ | ⟨_, rfl, rfl⟩
    · obtain ⟨h1, vs2, e2, fr2, h2, h3⟩ := g.tok n k' j' hn
      exact ⟨h1, vs2, e2, fr2, (hoth k' (hne n k' j' hni hn)).trans h2, h3⟩
    · exact ⟨hkm, vs', e, fr, h', by rw [hs]; exact hf, by rw [hs]; exact hd⟩
  · intro n n' k' j1 j2 h1 h2
    rcases hT n k' j1 h1 with ⟨a1, b1⟩ | ⟨a1, b1, _⟩ <;> rcases hT n' k' j2 h2 with ⟨a2, b2⟩ | ⟨a2, b2, _⟩
    · exact g.tinj n n' k' j1 j2 b1 b2
    · exact absurd b2 (hne n k' j1 a1 b1)
    · exact absurd b1 (hne n' k' j2 a2 b2)
    · omega
  · intro n k' j' hn
    rcases hT n k' j' hn with ⟨_, hn⟩ | ⟨_, rfl, _⟩
    · exact g.okt n k' j' hn
    · exact g.okt i k' j hi

theorem step_append {P : Program} {o : Oper} {σ : AS} {t t2 e : TypeId} {x y : Operand} {len m sz nb : Nat} {cs news : List PV} {tl : Tail} {N : AS → Prop}
    (ho : o.op = .call { callee := .builtin .append, args := #[x, y], argTypes := #[t, t2] }) (ht : P.underlying t = some (.slice e)) (he : ElemT P e sz nb) (ht2 : srcTy P t2 = true)
    (hx : σ.eval x = .tr len cs tl) (hcs : cs.length = len * sz) (happ : AppOK tl σ.ts sz) (hsrc : SrcOK P σ y m sz news) (hb : (len + m) * nb ≤ 2 ^ 47)
    (hN : ∀ tl' ts', AppOK tl' ts' sz → Keeps tl σ.ts tl' ts' →
      N { σ with slots := match o.dst with | some d => (d, .tr (len + m) (cs ++ news) tl') :: σ.slots | none => σ.slots, ts := ts' }) : Step P o σ N := by
  intro c a w K Q hr hK
  have hv := hr.2.eval x
  rw [hx] at hv
  simp only [VR] at hv
  obtain ⟨hnl, hnlf, hsr⟩ := hsrc
  obtain ⟨hlen, us, hus, husz, husv⟩ := hsr w c a hr
  -- how it ends
  have done : ∀ (v : Value) (w' : World) (tl' : Tail) (ts' : List Bool) (c' : Cx), (Builtin.append_ #[t, t2] o.type #[a.eval x, a.eval y]).run P w = .ok v w' →
      Good w' c' σ.H ts' → Ext w c w' c' → VR w' c' (.tr (len + m) (cs ++ news) tl') v → AppOK tl' ts' sz → Keeps tl σ.ts tl' ts' → o.wp P a w K Q := by
    intro v w' tl' ts' c' hrun hg hxt hvr hap hke
    refine wp_value (v := v) (w' := w') (run_builtin ho ?_) (hK c' _ w' _ (hN tl' ts' hap hke) ⟨hg, ?_⟩ hxt (Act.put_defers' _ _ _))
    · simp only [List.map_toArray, List.map_cons, List.map_nil, builtin, Sem.run_bind, hrun, Result.andThen_ok]; rfl
    · have := (hr.2.ext hxt).put o.dst hvr
      cases hd : o.dst with
      | none => rw [hd] at this; exact this
      | some d => rw [hd] at this; exact this
  -- a new block
  have growing : ∀ (b : Option Addr) (cap : Nat), a.eval x = .slice b len cap → (∃ os : Array Value, (∀ n, (Builtin.firstCells sz len (.slice b len cap)).run P { w with drawn := n } = .ok os { w with drawn := n }) ∧
      os.size = len * sz ∧ VRs w c cs (fun i => os[i]?)) → Leafs cs → ¬ len + m ≤ cap → o.wp P a w K Q := by
    intro b cap hxe ⟨os, hos, hosz, hosv⟩ hlf hroom
    obtain ⟨rest, ncap, hn1, hn2, hrun⟩ := run_append_grow (P := P) (t := t) (t2 := t2) ht he ht2 hlen hos hus hroom hb o.type
    rw [← hxe] at hrun
    have hq := quiet_drew hr.1 (w.drawn + 1)
    have hsize : (os ++ us ++ rest).size = (len + m) * sz + (ncap - (len + m)) * sz := by
      rw [Array.size_append, Array.size_append, hosz, husz, hn2, Nat.add_mul]
    obtain ⟨g2, x2⟩ := alloc_tok hq.1 (vs := os ++ us ++ rest) (e := e) (nofz_zero _) (j := (len + m) * sz) (by rw [hsize]; exact Nat.le_add_right _ _)
    refine done _ _ (.tok σ.ts.length sz) (σ.ts ++ [true]) _ hrun g2 (hq.2.trans x2) ?_ (.inr ⟨_, rfl, by simp⟩) ?_
    · simp only [VR]
      refine .inr ⟨_, ncap, rfl, hn1, ?_, ?_, ?_, ?_⟩
      · refine .inr ⟨rfl, by simp [grow], fun h => absurd (hr.1.mlt h) (Nat.lt_irrefl _), fun i k h => ?_, hr.1.okn _ _ (Nat.le_refl _)⟩
        rcases get_snoc _ _ _ _ h with h | ⟨_, h⟩
        · exact absurd (hr.1.tlt h) (Nat.lt_irrefl _)
        · simp at h; rw [h]; simp [hcs, hnl, Nat.add_mul]
      · refine ⟨by rw [← hr.1.tl]; simp, fun β k h => ?_⟩
        rw [← hr.1.tl] at h
        simp at h
        obtain ⟨rfl, rfl⟩ := h
        have hlen' : (cs ++ news).length = (len + m) * sz := by simp [hcs, hnl, Nat.add_mul]
        refine ⟨by rw [hlen']; simp, by rw [hlen']; exact Nat.le_refl _, hlen', _, e, (0, 0), grow_new _ _, ?_⟩
        rw [hsize, ← Nat.add_mul]
        show 0 + ncap * sz ≤ _
        rw [Nat.zero_add]
        exact Nat.mul_le_mul_right _ (by omega)
      · exact fun q hq => (List.mem_append.1 hq).elim (hlf q) (hnlf q)
      · refine VRs_mk fun i p hp => ?_
        show ∃ v, (grow _ _).cell? ⟨w.heap.size, 0 + i, none⟩ = some v ∧ _
        have hnew : (grow { w with drawn := w.drawn + 1 } (.cells (os ++ us ++ rest) e (0, 0))).heap[w.heap.size]? = some (.cells (os ++ us ++ rest) e (0, 0)) := grow_new _ _
        rw [cell_row hnew, Nat.zero_add]
        by_cases hi : i < len * sz
        · rw [List.getElem?_append_left (by omega)] at hp
          obtain ⟨v, h1, h2⟩ := VRs_get hosv hp
          refine ⟨v, ?_, h2.ext (hq.2.trans x2)⟩
          rw [Array.append_assoc, Array.getElem?_append_left (by omega)]; exact h1
        · have hi2 := (List.getElem?_eq_some_iff.1 hp).1
          simp [hcs, hnl] at hi2
          rw [List.getElem?_append_right (by omega), hcs] at hp
          obtain ⟨v, h1, h2⟩ := VRs_get husv hp
          refine ⟨v, ?_, h2.ext (hq.2.trans x2)⟩
          rw [Array.append_assoc, Array.getElem?_append_right (by omega), Array.getElem?_append_left (by omega), hosz]; exact h1
    · intro n s hn _
      have hlt : n < σ.ts.length := (List.getElem?_eq_some_iff.1 hn).1
      refine ⟨.inr ⟨n, rfl, by rw [List.getElem?_append_left hlt]; exact hn⟩, fun s' h => ?_⟩
      injection h with h1; omega
  rcases hv with ⟨hxe, hl0, hc0, hnt⟩ | ⟨ad, cap, hxe, hcap, hft, htail, hlf, hcells⟩
  · -- nil
    subst hl0; subst hc0
    have htl : tl = .full := by
      rcases happ with h | ⟨i, h, _⟩
      · exact h
      · rw [h] at hnt; cases hnt
    by_cases hm : m = 0
    · subst hm
      have hn0 : news = [] := List.eq_nil_of_length_eq_zero (by rw [hnl]; simp)
      subst hn0
      have hrun := run_append_keep (P := P) (w := w) (t := t) (t2 := t2) (b := none) (len := 0) (cap := 0) ht he.size ht2 hlen (hus w.drawn) (by rw [husz]; simp) (Nat.le_refl _) o.type
      rw [← hxe] at hrun
      refine done _ w .full σ.ts c hrun hr.1 (Ext.refl _ _) ?_ (.inl rfl) (fun n s hn _ => ⟨.inr ⟨n, rfl, hn⟩, fun s' h => by cases h⟩)
      rw [hxe]; simp only [VR]; exact .inl ⟨trivial, trivial, by simp, rfl⟩
    · exact growing none 0 hxe ⟨#[], fun n => rfl, by simp, by simp only [VRs]⟩ (fun q hq => by cases hq) (by omega)
  · have hread : ∃ os : Array Value, (∀ n, (Builtin.firstCells sz len (.slice (some ad) len cap)).run P { w with drawn := n } = .ok os { w with drawn := n }) ∧
        os.size = len * sz ∧ VRs w c cs (fun i => os[i]?) := by
      obtain ⟨os, h1, h2, h3⟩ := read_fz (P := P) cs hft hcells
      refine ⟨os, fun n => ?_, by rw [h2, hcs], h3⟩
      show (loadCells ad (len * sz)).run P _ = _
      rw [← hcs]; exact h1 n
    rcases happ with htl | ⟨i, htl, hal⟩
    · subst htl
      have hce : cap = len := htail
      by_cases hm : m = 0
      · subst hm
        have hn0 : news = [] := List.eq_nil_of_length_eq_zero (by rw [hnl]; simp)
        subst hn0
        have hrun := run_append_keep (P := P) (w := w) (t := t) (t2 := t2) (b := some ad) (len := len) (cap := cap) ht he.size ht2 hlen (hus w.drawn) (by rw [husz]; simp) hcap o.type
        rw [← hxe] at hrun
        refine done _ w .full σ.ts c hrun hr.1 (Ext.refl _ _) ?_ (.inl rfl) (fun n s hn _ => ⟨.inr ⟨n, rfl, hn⟩, fun s' h => by cases h⟩)
        rw [hxe]; simp only [VR]
        exact .inr ⟨ad, cap, rfl, hcap, by simpa using hft, hce, by simpa using hlf, by simpa using hcells⟩
      · exact growing (some ad) cap hxe hread hlf (by omega)
    · subst htl
      obtain ⟨hilt, htk⟩ := htail
      obtain ⟨k, j, hT⟩ := hr.1.tal i hal
      obtain ⟨had, hnk, hn2, vs, el, fr, hheap, hcapv⟩ := htk k j hT
      obtain ⟨hkm, vs2, e2, fr2, hheap2, hnf, hjs⟩ := hr.1.tok i k j hT
      rw [hheap] at hheap2
      cases hheap2
      by_cases hroom : len + m ≤ cap
      · -- in place
        have hoff : ad.off = j - cs.length := by rw [had]
        have haddr : ad.add (len * sz) = ⟨k, j, none⟩ := by
          rw [had, addr_add]; congr 1; omega
        have hm2 : (len + m) * sz ≤ cap * sz := Nat.mul_le_mul_right _ hroom
        have hjd : j + m * sz ≤ vs.size := by
          rw [Nat.add_mul] at hm2
          omega
        have hone : ∀ u, u ∈ us.toList → u.oneCell' = true := by
          intro u hu
          obtain ⟨n, hn⟩ := List.mem_iff_getElem?.1 hu
          have hlt := (List.getElem?_eq_some_iff.1 hn).1
          have hlt' : n < news.length := by rw [hnl, ← husz]; simpa using hlt
          obtain ⟨v, h1, h2⟩ := VRs_get husv (List.getElem?_eq_getElem hlt')
          have : u = v := by
            simp at hn; rw [hn] at h1; exact Option.some.inj h1
          subst this
          exact leaf_one (hnlf _ (List.getElem_mem hlt')) h2
        obtain ⟨w', vs', h1, h2, h3, h4, h5, h6, h7, h8, h9⟩ := run_storeCells_block (P := P) us.toList (off := j) (i := 0) hheap hnf (by simp [husz]; omega) hone
        have hrun := run_append_room (P := P) (w := w) (w' := w') (t := t) (t2 := t2) (a := ad) (len := len) (cap := cap) ht he.size ht2 hlen (hus w.drawn) hroom (by rw [haddr]; exact h1) o.type
        rw [← hxe] at hrun
        obtain ⟨g2, x2⟩ := fill_tok hr.1 hT hheap hnf h2 h3 (d := m * sz) hjd (fun n hn => by rw [h4 n, if_neg (by omega)]) h5 h6 h7 h8 h9
        have hlen' : (cs ++ news).length = (len + m) * sz := by simp [hcs, hnl, Nat.add_mul]
        refine done _ _ (.tok σ.ts.length sz) (σ.ts.set i false ++ [true]) _ hrun g2 x2 ?_ (.inr ⟨_, rfl, by rw [List.getElem?_append_right (by simp)]; simp⟩) ?_
        · simp only [VR]
          refine .inr ⟨ad, cap, rfl, hroom, ?_, ?_, ?_, ?_⟩
          · by_cases hz : (cs ++ news).length = 0
            · exact .inl hz
            · rw [had]
              refine .inr ⟨rfl, by rw [h6]; exact hr.1.tlt hT, hkm, fun n k' hn => ?_, ?_⟩
              · show j - cs.length + (cs ++ news).length ≤ k'
                have : (cs ++ news).length = cs.length + m * sz := by simp [hnl]
                rcases get_snoc _ _ _ _ hn with hn | ⟨_, hn⟩
                · by_cases hni : i = n
                  · subst hni; rw [List.getElem?_set_self (List.getElem?_eq_some_iff.1 hT).1] at hn; cases hn
                  · rw [List.getElem?_set_ne hni] at hn
                    exact absurd (hr.1.tinj n i k k' j hn hT) (fun e => hni e.symm)
                · simp at hn
                  omega
              · -- the token's block is one's own
                exact hr.1.okt i k j hT _
          · refine ⟨by rw [← hr.1.tl]; simp, fun β k' hn => ?_⟩
            rw [← hr.1.tl] at hn
            rw [List.getElem?_append_right (by simp)] at hn
            simp at hn
            obtain ⟨rfl, rfl⟩ := hn
            refine ⟨by rw [had]; congr 1; rw [hlen', Nat.add_mul]; omega, by rw [hlen', Nat.add_mul]; omega, hlen', vs', el, fr, h2, by rw [h3]; exact hcapv⟩
          · exact fun q hq => (List.mem_append.1 hq).elim (hlf q) (hnlf q)
          · refine VRs_mk fun n p hp => ?_
            rw [had]
            show ∃ v, w'.cell? ⟨k, j - cs.length + n, none⟩ = some v ∧ _
            rw [cell_row h2, h4]
            by_cases hn : n < cs.length
            · rw [List.getElem?_append_left hn] at hp
              rw [if_neg (by omega)]
              obtain ⟨v, h10, h11⟩ := VRs_get hcells hp
              refine ⟨v, ?_, h11.ext x2⟩
              rw [had] at h10
              have h10' : w.cell? ⟨k, j - cs.length + n, none⟩ = some v := h10
              rw [cell_row hheap] at h10'; exact h10'
            · have hn2 := (List.getElem?_eq_some_iff.1 hp).1
              simp [hnl] at hn2
              rw [List.getElem?_append_right (by omega)] at hp
              rw [if_pos (by simp [husz]; omega)]
              obtain ⟨v, h10, h11⟩ := VRs_get husv hp
              refine ⟨v, ?_, h11.ext x2⟩
              have : j - cs.length + n - (j + 0) = n - cs.length := by omega
              rw [this]; simpa using h10
        · intro n s hn hne
          have hni : i ≠ n := fun e => hne sz (by rw [e])
          have hlt : n < σ.ts.length := (List.getElem?_eq_some_iff.1 hn).1
          refine ⟨.inr ⟨n, rfl, ?_⟩, fun s' h => ?_⟩
          · rw [List.getElem?_append_left (by simpa using hlt), List.getElem?_set_ne hni]; exact hn
          · injection h with h1; omega
      · exact growing (some ad) cap hxe hread hlf hroom

end Go.Ab
