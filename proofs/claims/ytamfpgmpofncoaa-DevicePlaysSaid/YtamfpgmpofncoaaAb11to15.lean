import Derived.Test.YtamfpgmpofncoaaAb6to10
import Derived.Below
import GoSem.ClaimChange
import Derived.Carry
import Derived.WideShapes
import Derived.OpenShut
import Derived.DeepKeys
/- An abstract calculus over the model's weakest preconditions, part 11: append, as a step. -/
namespace Go.Ab

theorem get_snoc {α : Type} (l : List α) (x : α) (i : Nat) (y : α) (h : (l ++ [x])[i]? = some y) : l[i]? = some y ∨ (i = l.length ∧ y = x) := by
  by_cases hi : i < l.length
  · rw [List.getElem?_append_left hi] at h; exact .inl h
  · rw [List.getElem?_append_right (Nat.le_of_not_lt hi)] at h
    have : i - l.length = 0 := by
      rcases Nat.eq_zero_or_pos (i - l.length) with e | e
      · exact e
      · rw [List.getElem?_eq_none (by simp; omega)] at h; cases h
    rw [this] at h; simp at h
    exact .inr ⟨by omega, h.symm⟩

/-- A new block whose end is free. -/
theorem alloc_tok {w : World} {c : Cx} {H : List AObj} {ts : List Bool} (g : Good w c H ts) {vs : Array Value} {e : TypeId} {fr : Nat × Nat} (hf : nofz fr vs.size) {j : Nat} (hj : j ≤ vs.size) :
    Good (grow w (.cells vs e fr)) { c with T := c.T ++ [some (w.heap.size, j)] } H (ts ++ [true]) ∧
      Ext w c (grow w (.cells vs e fr)) { c with T := c.T ++ [some (w.heap.size, j)] } := by
  have hold : ∀ i k j' : Nat, (c.T ++ [some (w.heap.size, j)])[i]? = some (some (k, j')) → c.T[i]? = some (some (k, j')) ∨ (i = c.T.length ∧ k = w.heap.size ∧ j' = j) := fun i k j' h => by
    rcases get_snoc _ _ _ _ h with h | ⟨h1, h2⟩
    · exact .inl h
    · simp at h2; exact .inr ⟨h1, h2.1, h2.2⟩
  have x : Ext w c (grow w (.cells vs e fr)) { c with T := c.T ++ [some (w.heap.size, j)] } :=
    { os := rfl, tape := rfl, output := rfl, size := by simp [grow]
      ids := fun _ _ h => h, new := fun _ h => .inl h
      blocks := fun k hk _ _ => grow_old w _ k hk
      cells := fun k hk _ off v _ hv => by rw [cell_of_block (grow_old w _ k hk)]; exact hv
      toks := fun i k j' h => by
        rcases hold i k j' h with h | ⟨_, h, _⟩
        · exact .inr ⟨i, j', h, Nat.le_refl _⟩
        · exact .inl (Nat.le_of_eq h.symm)
      stay := fun i k j' hi h => by
        rcases hold i k j' h with h | ⟨h, _, _⟩
        · exact ⟨h, grow_old w _ k (g.tlt h)⟩
        · omega
      room := fun k vs' e' fr' h => ⟨vs', fr', (grow_old w _ k (Array.getElem?_eq_some_iff.1 h).1).trans h, rfl⟩
      tlen := by simp
      ok := rfl, pn := rfl }
  refine ⟨{ len := g.len, inj := g.inj, obj := ?_, tl := by simp [g.tl], tal := ?_, tdead := ?_, tok := ?_, tinj := ?_, okn := fun k e h => g.okn k e (Nat.le_trans x.size h), okm := g.okm, okt := ?_, oko := g.oko }, x⟩
  · intro b o h
    exact (g.obj b o h).pass x (fun k h1 => ⟨h1, grow_old w _ k (ObjC.lt g h1)⟩) id
  · intro i h
    rcases get_snoc _ _ _ _ h with h | ⟨h, _⟩
    · obtain ⟨k, j', h⟩ := g.tal i h
      exact ⟨k, j', by show (c.T ++ _)[i]? = _; rw [List.getElem?_append_left (List.getElem?_eq_some_iff.1 h).1]; exact h⟩
    · subst h
      refine ⟨w.heap.size, j, ?_⟩
      show (c.T ++ _)[ts.length]? = _
      rw [← g.tl]; simp
  · intro i h
    rcases get_snoc _ _ _ _ h with h | ⟨_, h⟩
    · have := g.tdead i h
      show (c.T ++ _)[i]? = _
      rw [List.getElem?_append_left (List.getElem?_eq_some_iff.1 this).1]; exact this
    · cases h
  · intro i k j' h
    rcases hold i k j' h with h | ⟨_, rfl, rfl⟩
    · obtain ⟨h1, vs', e', fr', h2, h3⟩ := g.tok i k j' h
      exact ⟨h1, vs', e', fr', (grow_old w _ k (g.tlt h)).trans h2, h3⟩
    · exact ⟨fun h => absurd (g.mlt h) (Nat.lt_irrefl _), vs, e, fr, grow_new w _, hf, hj⟩
  · intro i i' k j1 j2 h1 h2
    rcases hold i k j1 h1 with h1 | ⟨e1, e2, _⟩ <;> rcases hold i' k j2 h2 with h2 | ⟨e3, e4, _⟩
    · exact g.tinj i i' k j1 j2 h1 h2
    · have := g.tlt h1; omega
    · have := g.tlt h2; omega
    · omega
  · intro i k j' h
    rcases hold i k j' h with h | ⟨_, rfl, _⟩
    · exact g.okt i k j' h
    · exact fun e => g.okn _ e (Nat.le_refl _)

/-- The free end of a token's block is filled. -/
theorem fill_tok {w w' : World} {c : Cx} {H : List AObj} {ts : List Bool} (g : Good w c H ts) {i k j d : Nat} (hi : c.T[i]? = some (some (k, j))) {vs vs' : Array Value} {e : TypeId} {fr : Nat × Nat}
    (h : w.heap[k]? = some (.cells vs e fr)) (hf : nofz fr vs.size) (h' : w'.heap[k]? = some (.cells vs' e fr)) (hs : vs'.size = vs.size) (hd : j + d ≤ vs.size)
    (hold : ∀ n, n < j → vs'[n]? = vs[n]?) (hoth : ∀ k' : Nat, k' ≠ k → w'.heap[k']? = w.heap[k']?) (hsz : w'.heap.size = w.heap.size) (hos : w'.os = w.os) (htp : w'.tape = w.tape)
    (hout : w'.output = w.output) :
    Good w' { c with T := c.T.set i none ++ [some (k, j + d)] } H (ts.set i false ++ [true]) ∧ Ext w c w' { c with T := c.T.set i none ++ [some (k, j + d)] } := by
  have hilt : i < c.T.length := (List.getElem?_eq_some_iff.1 hi).1
  have hT : ∀ n k' j' : Nat, (c.T.set i none ++ [some (k, j + d)])[n]? = some (some (k', j')) → (n ≠ i ∧ c.T[n]? = some (some (k', j'))) ∨ (n = c.T.length ∧ k' = k ∧ j' = j + d) := fun n k' j' h => by
    rcases get_snoc _ _ _ _ h with h | ⟨h1, h2⟩
    · by_cases hn : i = n
      · subst hn; rw [List.getElem?_set_self hilt] at h; cases h
      · rw [List.getElem?_set_ne hn] at h; exact .inl ⟨fun e => hn e.symm, h⟩
    · simp at h2; exact .inr ⟨by simpa using h1, h2.1, h2.2⟩
  have hkm := (g.tok i k j hi).1
  have hne : ∀ n k' j', n ≠ i → c.T[n]? = some (some (k', j')) → k' ≠ k := fun n k' j' hn hn' e => hn (g.tinj n i k j' j (e ▸ hn') hi)
  have hmne : ∀ (b k' : Nat), c.m[b]? = some (some k') → k' ≠ k := fun b k' hb e => hkm (List.mem_iff_getElem?.2 ⟨b, e ▸ hb⟩)
  have x : Ext w c w' { c with T := c.T.set i none ++ [some (k, j + d)] } :=
    { os := hos, tape := htp, output := hout, size := Nat.le_of_eq hsz.symm
      ids := fun _ _ h => h, new := fun _ h => .inl h
      blocks := fun k' _ _ ht => hoth k' (fun e => ht i j (e ▸ hi))
      cells := fun k' _ _ off v ht hv => by
        by_cases hk : k' = k
        · subst hk
          have := ht i j hi
          rw [cell_row h] at hv
          rw [cell_row h', hold off this]; exact hv
        · rw [cell_of_block (hoth k' hk)]; exact hv
      toks := fun n k' j' h => by
        rcases hT n k' j' h with ⟨_, h⟩ | ⟨_, rfl, rfl⟩
        · exact .inr ⟨n, j', h, Nat.le_refl _⟩
        · exact .inr ⟨i, j, hi, Nat.le_add_right _ _⟩
      stay := fun n k' j' hn h => by
        rcases hT n k' j' h with ⟨hni, h⟩ | ⟨h, _⟩
        · exact ⟨h, hoth k' (hne n k' j' hni h)⟩
        · omega
      room := fun k' vs2 e2 fr2 h2 => by
        by_cases hk : k' = k
        · subst hk; rw [h] at h2; cases h2; exact ⟨_, _, h', by simp [*]⟩
        · exact ⟨vs2, fr2, (hoth k' hk).trans h2, rfl⟩
      tlen := by simp
      ok := rfl, pn := rfl }
  refine ⟨{ len := g.len, inj := g.inj, obj := ?_, tl := by simp [g.tl], tal := ?_, tdead := ?_, tok := ?_, tinj := ?_, okn := fun k e h => g.okn k e (hsz ▸ h), okm := g.okm, okt := ?_, oko := g.oko }, x⟩
  · intro b o hb
    exact (g.obj b o hb).pass x (fun k' h1 => ⟨h1, hoth k' (hmne b k' h1)⟩) id
  · intro n hn
    rcases get_snoc _ _ _ _ hn with hn | ⟨hn, _⟩
    · by_cases hni : i = n
      · subst hni
        have : i < ts.length := by rw [← g.tl]; exact hilt
        rw [List.getElem?_set_self this] at hn; cases hn
      · rw [List.getElem?_set_ne hni] at hn
        obtain ⟨k', j', h⟩ := g.tal n hn
        refine ⟨k', j', ?_⟩
        show (c.T.set i none ++ _)[n]? = _
        rw [List.getElem?_append_left (by simp; exact (List.getElem?_eq_some_iff.1 h).1), List.getElem?_set_ne hni]; exact h
    · refine ⟨k, j + d, ?_⟩
      show (c.T.set i none ++ _)[n]? = _
      rw [hn]; simp [← g.tl]
  · intro n hn
    rcases get_snoc _ _ _ _ hn with hn | ⟨_, hn⟩
    · show (c.T.set i none ++ _)[n]? = _
      by_cases hni : i = n
      · subst hni
        rw [List.getElem?_append_left (by simp; exact hilt), List.getElem?_set_self hilt]
      · rw [List.getElem?_set_ne hni] at hn
        have := g.tdead n hn
        rw [List.getElem?_append_left (by simp; exact (List.getElem?_eq_some_iff.1 this).1), List.getElem?_set_ne hni]; exact this
    · cases hn
  · intro n k' j' hn
    rcases hT n k' j' hn with ⟨hni, hn⟩ | ⟨_, rfl, rfl⟩
    · obtain ⟨h1, vs2, e2, fr2, h2, h3⟩ := g.tok n k' j' hn
      exact ⟨h1, vs2, e2, fr2, (hoth k' (hne n k' j' hni hn)).trans h2, h3⟩
    · exact ⟨hkm, vs', e, fr, h', by rw [hs]; exact hf, by rw [hs]; exact hd⟩
  · intro n n' k' j1 j2 h1 h2
    rcases hT n k' j1 h1 with ⟨a1, b1⟩ | ⟨a1, b1, _⟩ <;> rcases hT n' k' j2 h2 with ⟨a2, b2⟩ | ⟨a2, b2, _⟩
    · exact g.tinj n n' k' j1 j2 b1 b2
    · exact absurd b2 (hne n k' j1 a1 b1)
    · exact absurd b1 (hne n' k' j2 a2 b2)
    · omega
  · intro n k' j' hn
    rcases hT n k' j' hn with ⟨_, hn⟩ | ⟨_, rfl, _⟩
    · exact g.okt n k' j' hn
    · exact g.okt i k' j hi

theorem step_append {P : Program} {o : Oper} {σ : AS} {t t2 e : TypeId} {x y : Operand} {len m sz nb : Nat} {cs news : List PV} {tl : Tail} {N : AS → Prop}
    (ho : o.op = .call { callee := .builtin .append, args := #[x, y], argTypes := #[t, t2] }) (ht : P.underlying t = some (.slice e)) (he : ElemT P e sz nb) (ht2 : srcTy P t2 = true)
    (hx : σ.eval x = .tr len cs tl) (hcs : cs.length = len * sz) (happ : AppOK tl σ.ts sz) (hsrc : SrcOK P σ y m sz news) (hb : (len + m) * nb ≤ 2 ^ 47)
    (hN : ∀ tl' ts', AppOK tl' ts' sz → Keeps tl σ.ts tl' ts' →
      N { σ with slots := match o.dst with | some d => (d, .tr (len + m) (cs ++ news) tl') :: σ.slots | none => σ.slots, ts := ts' }) : Step P o σ N := by
  intro c a w K Q hr hK
  have hv := hr.2.eval x
  rw [hx] at hv
  simp only [VR] at hv
  obtain ⟨hnl, hnlf, hsr⟩ := hsrc
  obtain ⟨hlen, us, hus, husz, husv⟩ := hsr w c a hr
  -- how it ends
  have done : ∀ (v : Value) (w' : World) (tl' : Tail) (ts' : List Bool) (c' : Cx), (Builtin.append_ #[t, t2] o.type #[a.eval x, a.eval y]).run P w = .ok v w' →
      Good w' c' σ.H ts' → Ext w c w' c' → VR w' c' (.tr (len + m) (cs ++ news) tl') v → AppOK tl' ts' sz → Keeps tl σ.ts tl' ts' → o.wp P a w K Q := by
    intro v w' tl' ts' c' hrun hg hxt hvr hap hke
    refine wp_value (v := v) (w' := w') (run_builtin ho ?_) (hK c' _ w' _ (hN tl' ts' hap hke) ⟨hg, ?_⟩ hxt (Act.put_defers' _ _ _))
    · simp only [List.map_toArray, List.map_cons, List.map_nil, builtin, Sem.run_bind, hrun, Result.andThen_ok]; rfl
    · have := (hr.2.ext hxt).put o.dst hvr
      cases hd : o.dst with
      | none => rw [hd] at this; exact this
      | some d => rw [hd] at this; exact this
  -- a new block
  have growing : ∀ (b : Option Addr) (cap : Nat), a.eval x = .slice b len cap → (∃ os : Array Value, (∀ n, (Builtin.firstCells sz len (.slice b len cap)).run P { w with drawn := n } = .ok os { w with drawn := n }) ∧
      os.size = len * sz ∧ VRs w c cs (fun i => os[i]?)) → Leafs cs → ¬ len + m ≤ cap → o.wp P a w K Q := by
    intro b cap hxe ⟨os, hos, hosz, hosv⟩ hlf hroom
    obtain ⟨rest, ncap, hn1, hn2, hrun⟩ := run_append_grow (P := P) (t := t) (t2 := t2) ht he ht2 hlen hos hus hroom hb o.type
    rw [← hxe] at hrun
    have hq := quiet_drew hr.1 (w.drawn + 1)
    have hsize : (os ++ us ++ rest).size = (len + m) * sz + (ncap - (len + m)) * sz := by
      rw [Array.size_append, Array.size_append, hosz, husz, hn2, Nat.add_mul]
    obtain ⟨g2, x2⟩ := alloc_tok hq.1 (vs := os ++ us ++ rest) (e := e) (nofz_zero _) (j := (len + m) * sz) (by rw [hsize]; exact Nat.le_add_right _ _)
    refine done _ _ (.tok σ.ts.length sz) (σ.ts ++ [true]) _ hrun g2 (hq.2.trans x2) ?_ (.inr ⟨_, rfl, by simp⟩) ?_
    · simp only [VR]
      refine .inr ⟨_, ncap, rfl, hn1, ?_, ?_, ?_, ?_⟩
      · refine .inr ⟨rfl, by simp [grow], fun h => absurd (hr.1.mlt h) (Nat.lt_irrefl _), fun i k h => ?_, hr.1.okn _ _ (Nat.le_refl _)⟩
        rcases get_snoc _ _ _ _ h with h | ⟨_, h⟩
        · exact absurd (hr.1.tlt h) (Nat.lt_irrefl _)
        · simp at h; rw [h]; simp [hcs, hnl, Nat.add_mul]
      · refine ⟨by rw [← hr.1.tl]; simp, fun β k h => ?_⟩
        rw [← hr.1.tl] at h
        simp at h
        obtain ⟨rfl, rfl⟩ := h
        have hlen' : (cs ++ news).length = (len + m) * sz := by simp [hcs, hnl, Nat.add_mul]
        refine ⟨by rw [hlen']; simp, by rw [hlen']; exact Nat.le_refl _, hlen', _, e, (0, 0), grow_new _ _, ?_⟩
        rw [hsize, ← Nat.add_mul]
        show 0 + ncap * sz ≤ _
        rw [Nat.zero_add]
        exact Nat.mul_le_mul_right _ (by omega)
      · exact fun q hq => (List.mem_append.1 hq).elim (hlf q) (hnlf q)
      · refine VRs_mk fun i p hp => ?_
        show ∃ v, (grow _ _).cell? ⟨w.heap.size, 0 + i, none⟩ = some v ∧ _
        have hnew : (grow { w with drawn := w.drawn + 1 } (.cells (os ++ us ++ rest) e (0, 0))).heap[w.heap.size]? = some (.cells (os ++ us ++ rest) e (0, 0)) := grow_new _ _
        rw [cell_row hnew, Nat.zero_add]
        by_cases hi : i < len * sz
        · rw [List.getElem?_append_left (by omega)] at hp
          obtain ⟨v, h1, h2⟩ := VRs_get hosv hp
          refine ⟨v, ?_, h2.ext (hq.2.trans x2)⟩
          rw [Array.append_assoc, Array.getElem?_append_left (by omega)]; exact h1
        · have hi2 := (List.getElem?_eq_some_iff.1 hp).1
          simp [hcs, hnl] at hi2
          rw [List.getElem?_append_right (by omega), hcs] at hp
          obtain ⟨v, h1, h2⟩ := VRs_get husv hp
          refine ⟨v, ?_, h2.ext (hq.2.trans x2)⟩
          rw [Array.append_assoc, Array.getElem?_append_right (by omega), Array.getElem?_append_left (by omega), hosz]; exact h1
    · intro n s hn _
      have hlt : n < σ.ts.length := (List.getElem?_eq_some_iff.1 hn).1
      refine ⟨.inr ⟨n, rfl, by rw [List.getElem?_append_left hlt]; exact hn⟩, fun s' h => ?_⟩
      injection h with h1; omega
  rcases hv with ⟨hxe, hl0, hc0, hnt⟩ | ⟨ad, cap, hxe, hcap, hft, htail, hlf, hcells⟩
  · -- nil
    subst hl0; subst hc0
    have htl : tl = .full := by
      rcases happ with h | ⟨i, h, _⟩
      · exact h
      · rw [h] at hnt; cases hnt
    by_cases hm : m = 0
    · subst hm
      have hn0 : news = [] := List.eq_nil_of_length_eq_zero (by rw [hnl]; simp)
      subst hn0
      have hrun := run_append_keep (P := P) (w := w) (t := t) (t2 := t2) (b := none) (len := 0) (cap := 0) ht he.size ht2 hlen (hus w.drawn) (by rw [husz]; simp) (Nat.le_refl _) o.type
      rw [← hxe] at hrun
      refine done _ w .full σ.ts c hrun hr.1 (Ext.refl _ _) ?_ (.inl rfl) (fun n s hn _ => ⟨.inr ⟨n, rfl, hn⟩, fun s' h => by cases h⟩)
      rw [hxe]; simp only [VR]; exact .inl ⟨trivial, trivial, by simp, rfl⟩
    · exact growing none 0 hxe ⟨#[], fun n => rfl, by simp, by simp only [VRs]⟩ (fun q hq => by cases hq) (by omega)
  · have hread : ∃ os : Array Value, (∀ n, (Builtin.firstCells sz len (.slice (some ad) len cap)).run P { w with drawn := n } = .ok os { w with drawn := n }) ∧
        os.size = len * sz ∧ VRs w c cs (fun i => os[i]?) := by
      obtain ⟨os, h1, h2, h3⟩ := read_fz (P := P) cs hft hcells
      refine ⟨os, fun n => ?_, by rw [h2, hcs], h3⟩
      show (loadCells ad (len * sz)).run P _ = _
      rw [← hcs]; exact h1 n
    rcases happ with htl | ⟨i, htl, hal⟩
    · subst htl
      have hce : cap = len := htail
      by_cases hm : m = 0
      · subst hm
        have hn0 : news = [] := List.eq_nil_of_length_eq_zero (by rw [hnl]; simp)
        subst hn0
        have hrun := run_append_keep (P := P) (w := w) (t := t) (t2 := t2) (b := some ad) (len := len) (cap := cap) ht he.size ht2 hlen (hus w.drawn) (by rw [husz]; simp) hcap o.type
        rw [← hxe] at hrun
        refine done _ w .full σ.ts c hrun hr.1 (Ext.refl _ _) ?_ (.inl rfl) (fun n s hn _ => ⟨.inr ⟨n, rfl, hn⟩, fun s' h => by cases h⟩)
        rw [hxe]; simp only [VR]
        exact .inr ⟨ad, cap, rfl, hcap, by simpa using hft, hce, by simpa using hlf, by simpa using hcells⟩
      · exact growing (some ad) cap hxe hread hlf (by omega)
    · subst htl
      obtain ⟨hilt, htk⟩ := htail
      obtain ⟨k, j, hT⟩ := hr.1.tal i hal
      obtain ⟨had, hnk, hn2, vs, el, fr, hheap, hcapv⟩ := htk k j hT
      obtain ⟨hkm, vs2, e2, fr2, hheap2, hnf, hjs⟩ := hr.1.tok i k j hT
      rw [hheap] at hheap2
      cases hheap2
      by_cases hroom : len + m ≤ cap
      · -- in place
        have hoff : ad.off = j - cs.length := by rw [had]
        have haddr : ad.add (len * sz) = ⟨k, j, none⟩ := by
          rw [had, addr_add]; congr 1; omega
        have hm2 : (len + m) * sz ≤ cap * sz := Nat.mul_le_mul_right _ hroom
        have hjd : j + m * sz ≤ vs.size := by
          rw [Nat.add_mul] at hm2
          omega
        have hone : ∀ u, u ∈ us.toList → u.oneCell' = true := by
          intro u hu
          obtain ⟨n, hn⟩ := List.mem_iff_getElem?.1 hu
          have hlt := (List.getElem?_eq_some_iff.1 hn).1
          have hlt' : n < news.length := by rw [hnl, ← husz]; simpa using hlt
          obtain ⟨v, h1, h2⟩ := VRs_get husv (List.getElem?_eq_getElem hlt')
          have : u = v := by
            simp at hn; rw [hn] at h1; exact Option.some.inj h1
          subst this
          exact leaf_one (hnlf _ (List.getElem_mem hlt')) h2
        obtain ⟨w', vs', h1, h2, h3, h4, h5, h6, h7, h8, h9⟩ := run_storeCells_block (P := P) us.toList (off := j) (i := 0) hheap hnf (by simp [husz]; omega) hone
        have hrun := run_append_room (P := P) (w := w) (w' := w') (t := t) (t2 := t2) (a := ad) (len := len) (cap := cap) ht he.size ht2 hlen (hus w.drawn) hroom (by rw [haddr]; exact h1) o.type
        rw [← hxe] at hrun
        obtain ⟨g2, x2⟩ := fill_tok hr.1 hT hheap hnf h2 h3 (d := m * sz) hjd (fun n hn => by rw [h4 n, if_neg (by omega)]) h5 h6 h7 h8 h9
        have hlen' : (cs ++ news).length = (len + m) * sz := by simp [hcs, hnl, Nat.add_mul]
        refine done _ _ (.tok σ.ts.length sz) (σ.ts.set i false ++ [true]) _ hrun g2 x2 ?_ (.inr ⟨_, rfl, by rw [List.getElem?_append_right (by simp)]; simp⟩) ?_
        · simp only [VR]
          refine .inr ⟨ad, cap, rfl, hroom, ?_, ?_, ?_, ?_⟩
          · by_cases hz : (cs ++ news).length = 0
            · exact .inl hz
            · rw [had]
              refine .inr ⟨rfl, by rw [h6]; exact hr.1.tlt hT, hkm, fun n k' hn => ?_, ?_⟩
              · show j - cs.length + (cs ++ news).length ≤ k'
                have : (cs ++ news).length = cs.length + m * sz := by simp [hnl]
                rcases get_snoc _ _ _ _ hn with hn | ⟨_, hn⟩
                · by_cases hni : i = n
                  · subst hni; rw [List.getElem?_set_self (List.getElem?_eq_some_iff.1 hT).1] at hn; cases hn
                  · rw [List.getElem?_set_ne hni] at hn
                    exact absurd (hr.1.tinj n i k k' j hn hT) (fun e => hni e.symm)
                · simp at hn
                  omega
              · -- the token's block is one's own
                exact hr.1.okt i k j hT _
          · refine ⟨by rw [← hr.1.tl]; simp, fun β k' hn => ?_⟩
            rw [← hr.1.tl] at hn
            rw [List.getElem?_append_right (by simp)] at hn
            simp at hn
            obtain ⟨rfl, rfl⟩ := hn
            refine ⟨by rw [had]; congr 1; rw [hlen', Nat.add_mul]; omega, by rw [hlen', Nat.add_mul]; omega, hlen', vs', el, fr, h2, by rw [h3]; exact hcapv⟩
          · exact fun q hq => (List.mem_append.1 hq).elim (hlf q) (hnlf q)
          · refine VRs_mk fun n p hp => ?_
            rw [had]
            show ∃ v, w'.cell? ⟨k, j - cs.length + n, none⟩ = some v ∧ _
            rw [cell_row h2, h4]
            by_cases hn : n < cs.length
            · rw [List.getElem?_append_left hn] at hp
              rw [if_neg (by omega)]
              obtain ⟨v, h10, h11⟩ := VRs_get hcells hp
              refine ⟨v, ?_, h11.ext x2⟩
              rw [had] at h10
              have h10' : w.cell? ⟨k, j - cs.length + n, none⟩ = some v := h10
              rw [cell_row hheap] at h10'; exact h10'
            · have hn2 := (List.getElem?_eq_some_iff.1 hp).1
              simp [hnl] at hn2
              rw [List.getElem?_append_right (by omega)] at hp
              rw [if_pos (by simp [husz]; omega)]
              obtain ⟨v, h10, h11⟩ := VRs_get husv hp
              refine ⟨v, ?_, h11.ext x2⟩
              have : j - cs.length + n - (j + 0) = n - cs.length := by omega
              rw [this]; simpa using h10
        · intro n s hn hne
          have hni : i ≠ n := fun e => hne sz (by rw [e])
          have hlt : n < σ.ts.length := (List.getElem?_eq_some_iff.1 hn).1
          refine ⟨.inr ⟨n, rfl, ?_⟩, fun s' h => ?_⟩
          · rw [List.getElem?_append_left (by simpa using hlt), List.getElem?_set_ne hni]; exact hn
          · injection h with h1; omega
      · exact growing (some ad) cap hxe hread hlf hroom

end Go.Ab

/- An abstract calculus over the model's weakest preconditions, part 12: arguments that read as data; a law's call. -/
namespace Go.Ab
open Go.RowKit (Below)

mutual
def cellsD {H : Type} : DataW H → List PV
  | .lit (.bool b) => [.val (.bool b)]
  | .lit (.int k n) => [.val (.int k n)]
  | .lit (.string l) => [.val (.string ⟨l.toArray⟩)]
  | .lit _ => [.dead]
  | .nil => [.tr 0 [] .no]
  | .slice es _ => [.tr es.length (cellsDs es) .no]
  | .agg ps => cellsDs ps
  | .ptr _ => [.dead]
  | .iface _ _ => [.dead]
  | .map _ => [.dead]
  | .held _ => [.dead]
def cellsDs {H : Type} : List (DataW H) → List PV
  | [] => []
  | d :: ds => cellsD d ++ cellsDs ds
end

/-- a field stands where the one ahead of it ends -/
def tilesFrom (P : Program) : List Field → Nat → Nat → Bool
  | [], off, n => off == n
  | f :: fs, off, n => f.offset == off && tilesFrom P fs (off + P.cellsOf f.type) n

/-- types of plain data: whole numbers, truths, strings, and structs, arrays and slices of such -/
def plainTy (P : Program) : Nat → TypeId → Bool
  | 0, _ => false
  | n + 1, t =>
    match P.underlying t with
    | some .bool | some (.int _) | some .string => true
    | some (.slice e) => plainTy P n e
    | some (.array k e) => plainTy P n e && P.cellsOf t == k * P.cellsOf e
    | some (.struct fs) => fs.toList.all (fun f => plainTy P n f.type) && tilesFrom P fs.toList 0 (P.cellsOf t)
    | _ => false

theorem mapM_opt {α β : Type} {f : α → Option β} : ∀ {l : List α} {xs : List β}, l.mapM f = some xs → xs.length = l.length ∧ ∀ (i : Nat) a, l[i]? = some a → ∃ x, xs[i]? = some x ∧ f a = some x
  | [], xs, h => by
    simp at h; subst h
    exact ⟨rfl, fun i a h => by simp at h⟩
  | a :: l, xs, h => by
    rw [List.mapM_cons] at h
    cases hf : f a with
    | none => rw [hf] at h; cases h
    | some x =>
      rw [hf] at h
      cases hl : l.mapM f with
      | none => rw [hl] at h; cases h
      | some ys =>
        rw [hl] at h
        simp at h
        subst h
        obtain ⟨h1, h2⟩ := mapM_opt hl
        refine ⟨by simp [h1], fun i b hb => ?_⟩
        cases i with
        | zero => simp at hb; subst hb; exact ⟨x, rfl, hf⟩
        | succ i => exact h2 i b (by simpa using hb)

theorem cells?_get {w : World} {base : Nat} {a : Addr} {n : Nat} {cs : List Value} (h : w.cells? base a n = some cs) : cs.length = n ∧ ∀ i, i < n → w.cell? (a.add i) = cs[i]? := by
  unfold World.cells? at h
  split at h
  · obtain ⟨h1, h2⟩ := mapM_opt h
    refine ⟨by simpa using h1, fun i hi => ?_⟩
    obtain ⟨x, h3, h4⟩ := h2 i i (by simp [hi])
    rw [h4, h3]
  · cases h

theorem VRs_append {w : World} {c : Cx} {xs ys : List PV} {f : Nat → Option Value} (h1 : VRs w c xs f) (h2 : VRs w c ys (fun i => f (xs.length + i))) : VRs w c (xs ++ ys) f :=
  VRs_mk fun i p hp => by
    by_cases hi : i < xs.length
    · rw [List.getElem?_append_left hi] at hp; exact VRs_get h1 hp
    · rw [List.getElem?_append_right (Nat.le_of_not_lt hi)] at hp
      obtain ⟨v, h3, h4⟩ := VRs_get h2 hp
      exact ⟨v, by have : xs.length + (i - xs.length) = i := by omega
                   rw [this] at h3; exact h3, h4⟩

theorem VRs_congr {w : World} {c : Cx} {xs : List PV} {f g : Nat → Option Value} (h : VRs w c xs f) (hfg : ∀ i, i < xs.length → f i = g i) : VRs w c xs g :=
  VRs_mk fun i p hp => by
    obtain ⟨v, h1, h2⟩ := VRs_get h hp
    exact ⟨v, by rw [← hfg i (List.getElem?_eq_some_iff.1 hp).1]; exact h1, h2⟩

/-- what a reading tells of one value -/
def Rd {H : Type} (w : World) (c : Cx) (d : DataW H) (cs : List Value) : Prop :=
  (cellsD d).length = cs.length ∧ Leafs (cellsD d) ∧ VRs w c (cellsD d) (fun i => cs[i]?)

/-- parts of equal size, one behind the other -/
theorem rd_rows {H : Type} {w : World} {c : Cx} {sz : Nat} : ∀ {ds : List (DataW H)} {css : List (List Value)}, ds.length = css.length → (∀ (i : Nat) d cs, ds[i]? = some d → css[i]? = some cs → Rd w c d cs ∧ cs.length = sz) →
    (cellsDs ds).length = ds.length * sz ∧ Leafs (cellsDs ds) ∧ VRs w c (cellsDs ds) (fun i => css.flatten[i]?)
  | [], [], _, _ => ⟨by simp [cellsDs], fun q hq => by simp [cellsDs] at hq, by simp only [cellsDs, VRs]⟩
  | d :: ds, cs :: css, hl, h => by
    obtain ⟨⟨h1, h2, h3⟩, h4⟩ := h 0 d cs rfl rfl
    obtain ⟨h5, h6, h7⟩ := rd_rows (ds := ds) (css := css) (by simpa using hl) (fun i d cs hd hc => h (i + 1) d cs (by simpa using hd) (by simpa using hc))
    refine ⟨by simp [cellsDs, h1, h4, h5, Nat.add_mul, Nat.add_comm], fun q hq => ?_, ?_⟩
    · simp only [cellsDs, List.mem_append] at hq
      exact hq.elim (h2 q) (h6 q)
    · simp only [cellsDs, List.flatten_cons]
      refine VRs_append (VRs_congr h3 fun i hi => ?_) (VRs_congr h7 fun i hi => ?_)
      · rw [List.getElem?_append_left (by omega)]
      · rw [List.getElem?_append_right (by omega)]
        congr 1; omega
  | [], _ :: _, hl, _ => by simp at hl
  | _ :: _, [], hl, _ => by simp at hl

theorem flatten_get {sz : Nat} : ∀ {css : List (List Value)} {i r : Nat} {cs : List Value}, (∀ c, c ∈ css → c.length = sz) → css[i]? = some cs → r < sz → css.flatten[i * sz + r]? = cs[r]?
  | [], _, _, _, _, h, _ => by simp at h
  | c :: css, 0, r, cs, hsz, h, hr => by
    simp at h; subst h
    rw [List.flatten_cons, List.getElem?_append_left (by rw [hsz c (by simp)]; omega)]; simp
  | c :: css, i + 1, r, cs, hsz, h, hr => by
    have hc := hsz c (by simp)
    rw [List.flatten_cons, List.getElem?_append_right (by rw [hc, Nat.add_mul]; omega), hc]
    have : (i + 1) * sz + r - sz = i * sz + r := by rw [Nat.add_mul]; omega
    rw [this]
    exact flatten_get (fun c hc => hsz c (by simp [hc])) (by simpa using h) hr

theorem trod_rd {H : Type} {enc : TypeId × Value → H} {P : Program} {w : World} {c : Cx} (hm : c.m = []) (hT : c.T = []) (hok : ∀ b e, c.ok b e) {spare : Nat → Bool} {held : Bool} :
    ∀ (fuel n : Nat) (t : TypeId) (cs : List Value) (d : DataW H) (ps : List MemPlace), plainTy P n t = true → DataW.trod enc P w 0 spare held fuel t cs = some (d, ps) → Rd w c d cs ∧
      (P.underlying t = some .bool ∨ (∃ k, P.underlying t = some (.int k)) ∨ P.underlying t = some .string ∨ (∃ e, P.underlying t = some (.slice e)) ∨ cs.length = P.cellsOf t) := by
  intro fuel
  induction fuel with
  | zero => intro n t cs d ps _ h; simp [DataW.trod] at h
  | succ fuel ih =>
    intro n t cs d ps hp h
    cases n with
    | zero => simp [plainTy] at hp
    | succ n =>
      simp only [plainTy] at hp
      cases hu : P.underlying t with
      | none => rw [hu] at hp; cases hp
      | some u =>
        rw [hu] at hp
        cases u <;> simp only [Bool.false_eq_true] at hp
        · -- bool
          refine ⟨?_, .inl rfl⟩
          have hcase : ∃ b, cs = [.bool b] ∧ d = .lit (.bool b) := by
            cases cs with
            | nil => simp [DataW.trod, hu] at h
            | cons v r => cases r <;> cases v <;> simp [DataW.trod, hu] at h ⊢; exact h.1.symm
          obtain ⟨b, rfl, rfl⟩ := hcase
          refine ⟨rfl, fun q hq => by simp [cellsD] at hq; subst hq; rfl, ?_⟩
          simp only [cellsD, VRs]
          exact ⟨⟨_, rfl, VR_val rfl⟩, trivial⟩
        · rename_i k
          refine ⟨?_, .inr (.inl ⟨k, rfl⟩)⟩
          have hcase : ∃ x, cs = [.int k x] ∧ d = .lit (.int k x) := by
            cases cs with
            | nil => simp [DataW.trod, hu] at h
            | cons v r => cases r <;> cases v <;> simp [DataW.trod, hu] at h ⊢; obtain ⟨⟨h1, _⟩, h2, _⟩ := h; exact ⟨_, ⟨h1, rfl⟩, h2.symm⟩
          obtain ⟨x, rfl, rfl⟩ := hcase
          refine ⟨rfl, fun q hq => by simp [cellsD] at hq; subst hq; rfl, ?_⟩
          simp only [cellsD, VRs]
          exact ⟨⟨_, rfl, VR_val rfl⟩, trivial⟩
        · refine ⟨?_, .inr (.inr (.inl rfl))⟩
          have hcase : ∃ x, cs = [.string x] ∧ d = .lit (.string x.data.toList) := by
            cases cs with
            | nil => simp [DataW.trod, hu] at h
            | cons v r => cases r <;> cases v <;> simp [DataW.trod, hu] at h ⊢; exact h.2.1.symm
          obtain ⟨x, rfl, rfl⟩ := hcase
          refine ⟨rfl, fun q hq => by simp [cellsD] at hq; subst hq; rfl, ?_⟩
          simp only [cellsD, VRs]
          exact ⟨⟨_, rfl, VR_val rfl⟩, trivial⟩
        · -- a slice
          rename_i e
          refine ⟨?_, .inr (.inr (.inr (.inl ⟨e, rfl⟩)))⟩
          have hcase : (cs = [.slice none 0 0] ∧ d = .nil) ∨ ∃ a len cap, cs = [.slice (some a) len cap] ∧ len ≤ cap ∧ ∃ elems rest,
              (List.range len).mapM (fun i => (w.cells? 0 (a.add (i * P.cellsOf e)) (P.cellsOf e)).bind (DataW.trod enc P w 0 spare held fuel e)) = some elems ∧
              d = .slice (elems.map (·.1)) rest := by
            cases cs with
            | nil => simp [DataW.trod, hu] at h
            | cons v r =>
              cases r with
              | cons v2 r2 => cases v <;> simp [DataW.trod, hu] at h
              | nil =>
                cases v <;> try (simp [DataW.trod, hu] at h; done)
                rename_i a len cap
                cases a with
                | none =>
                  cases len <;> cases cap <;> simp [DataW.trod, hu] at h
                  exact .inl ⟨rfl, h.1.symm⟩
                | some a =>
                  simp only [DataW.trod, hu] at h
                  split at h <;> first | (cases h; done) | skip
                  rename_i hc
                  obtain ⟨_, hlc, _⟩ := hc
                  cases hm1 : (List.range len).mapM (fun i => (w.cells? 0 (a.add (i * P.cellsOf e)) (P.cellsOf e)).bind (DataW.trod enc P w 0 spare held fuel e)) with
                  | none => rw [hm1] at h; cases h
                  | some elems =>
                    rw [hm1] at h
                    simp only [Option.bind_some] at h
                    rw [Option.map_eq_some_iff] at h
                    obtain ⟨rest, _, h2⟩ := h
                    cases h2
                    exact .inr ⟨a, len, cap, rfl, hlc, elems, _, hm1, rfl⟩
          rcases hcase with ⟨rfl, rfl⟩ | ⟨a, len, cap, rfl, hlc, elems, rest, hel, rfl⟩
          · refine ⟨rfl, fun q hq => by simp [cellsD] at hq; subst hq; rfl, ?_⟩
            simp only [cellsD, VRs]
            exact ⟨⟨_, rfl, by simp only [VR]; exact .inl ⟨trivial, trivial, trivial, rfl⟩⟩, trivial⟩
          · obtain ⟨hlen, hat⟩ := mapM_opt hel
            simp at hlen
            -- the cells of each element
            have hcells : ∀ i, i < len → ∃ ci x, w.cells? 0 (a.add (i * P.cellsOf e)) (P.cellsOf e) = some ci ∧ elems[i]? = some x ∧ DataW.trod enc P w 0 spare held fuel e ci = some x := by
              intro i hi
              obtain ⟨x, h1, h2⟩ := hat i i (by simp [hi])
              rw [Option.bind_eq_some_iff] at h2
              obtain ⟨ci, h3, h4⟩ := h2
              exact ⟨ci, x, h3, h1, h4⟩
            let css : List (List Value) := (List.range len).map fun i => (w.cells? 0 (a.add (i * P.cellsOf e)) (P.cellsOf e)).getD []
            have hcss : ∀ i, i < len → css[i]? = some ((w.cells? 0 (a.add (i * P.cellsOf e)) (P.cellsOf e)).getD []) := fun i hi => by simp [css, hi]
            have hsz : ∀ cc, cc ∈ css → cc.length = P.cellsOf e := by
              intro cc hcc
              simp only [css, List.mem_map, List.mem_range] at hcc
              obtain ⟨i, hi, rfl⟩ := hcc
              obtain ⟨ci, x, h1, _, _⟩ := hcells i hi
              rw [h1]; exact (cells?_get h1).1
            obtain ⟨h5, h6, h7⟩ := rd_rows (w := w) (c := c) (sz := P.cellsOf e) (ds := elems.map (·.1)) (css := css) (by simp [css, hlen]) (fun i d' cs' hd hc => by
              have hi : i < len := by
                have := (List.getElem?_eq_some_iff.1 hc).1; simpa [css] using this
              obtain ⟨ci, x, h1, h2, h3⟩ := hcells i hi
              rw [List.getElem?_map, h2] at hd
              simp at hd
              rw [hcss i hi, h1] at hc
              simp at hc
              subst hc; subst hd
              exact ⟨(ih n e ci x.1 x.2 hp h3).1, (cells?_get h1).1⟩)
            have hlen2 : (cellsDs (elems.map (·.1))).length = len * P.cellsOf e := by rw [h5]; simp [hlen]
            -- where the cells lie
            have hlie : ∀ j, j < len * P.cellsOf e → ∃ v, a.spot = none ∧ w.cell? ⟨a.block, a.off + j, none⟩ = some v ∧ css.flatten[j]? = some v := by
              intro j hj
              have hpos : 0 < P.cellsOf e := by
                rcases Nat.eq_zero_or_pos (P.cellsOf e) with h0 | h0
                · rw [h0] at hj; simp at hj
                · exact h0
              have hi : j / P.cellsOf e < len := (Nat.div_lt_iff_lt_mul hpos).2 hj
              have hr : j % P.cellsOf e < P.cellsOf e := Nat.mod_lt _ hpos
              obtain ⟨ci, x, h1, _, _⟩ := hcells _ hi
              obtain ⟨g1, g2⟩ := cells?_get h1
              have hci : ∃ v, ci[j % P.cellsOf e]? = some v := ⟨ci[j % P.cellsOf e], by simp [g1, hr]⟩
              obtain ⟨v, hv⟩ := hci
              have hcell : w.cell? ((a.add (j / P.cellsOf e * P.cellsOf e)).add (j % P.cellsOf e)) = some v := by rw [g2 _ hr, hv]
              have hfl : css.flatten[j]? = some v := by
                have := flatten_get (sz := P.cellsOf e) hsz (hcss _ hi) hr
                rw [Nat.div_add_mod'] at this
                rw [this, h1]; exact hv
              by_cases hs : a.spot = none
              · refine ⟨v, hs, ?_, hfl⟩
                have e1 : ∀ k, a.add k = ⟨a.block, a.off + k, none⟩ := fun k => by
                  cases a with
                  | mk b o s => simp only at hs; subst hs; exact addr_add b o k
                rw [e1, addr_add] at hcell
                have : a.off + j / P.cellsOf e * P.cellsOf e + j % P.cellsOf e = a.off + j := by
                  rw [Nat.add_assoc, Nat.div_add_mod']
                rw [this] at hcell; exact hcell
              · -- a place within no cell: the first cell couldn't be read
                exfalso
                have h0 : 0 < len := Nat.lt_of_le_of_lt (Nat.zero_le _) hi
                obtain ⟨c0, x0, q1, _, _⟩ := hcells 0 h0
                obtain ⟨q2, q3⟩ := cells?_get q1
                have := q3 0 hpos
                have e0 : (a.add (0 * P.cellsOf e)).add 0 = a := by simp [Addr.add]
                rw [e0] at this
                have hv0 : ∃ v0, c0[0]? = some v0 := ⟨c0[0], by simp [q2, hpos]⟩
                obtain ⟨v0, hv0⟩ := hv0
                rw [hv0] at this
                unfold World.cell? at this
                have hsome : a.spot.isSome = true := by
                  cases hsp : a.spot with
                  | none => exact absurd hsp hs
                  | some _ => rfl
                split at this
                · rw [if_pos hsome] at this; cases this
                · cases this
            refine ⟨rfl, fun q hq => by simp [cellsD] at hq; subst hq; rfl, ?_⟩
            simp only [cellsD, VRs]
            refine ⟨⟨_, rfl, ?_⟩, trivial⟩
            simp only [VR]
            refine .inr ⟨a, cap, by simp [hlen], by simpa [hlen] using hlc, ?_, trivial, h6, VRs_mk fun j p hp' => ?_⟩
            · rw [hlen2]
              by_cases h0 : len * P.cellsOf e = 0
              · exact .inl h0
              · obtain ⟨v, hs, hv, _⟩ := hlie 0 (Nat.pos_of_ne_zero h0)
                have hblt : a.block < w.heap.size := by
                  unfold World.cell? at hv
                  split at hv
                  · rename_i hb; exact (Array.getElem?_eq_some_iff.1 hb).1
                  · cases hv
                exact .inr ⟨hs, hblt, by rw [hm]; simp, fun i k h => by rw [hT] at h; simp at h, hok _ _⟩
            · have hj : j < len * P.cellsOf e := by
                have := (List.getElem?_eq_some_iff.1 hp').1
                rw [hlen2] at this; exact this
              obtain ⟨v, _, hv, hf⟩ := hlie j hj
              obtain ⟨v', h8, h9⟩ := VRs_get h7 hp'
              rw [hf] at h8; cases h8
              exact ⟨v, hv, h9⟩
        · -- an array
          rename_i k e
          simp only [Bool.and_eq_true, beq_iff_eq] at hp
          obtain ⟨hpe, hsize⟩ := hp
          have hcase : cs.length = P.cellsOf t ∧ ∃ xs, (List.range k).mapM (fun i => DataW.trod enc P w 0 spare held fuel e ((cs.drop (i * P.cellsOf e)).take (P.cellsOf e))) = some xs ∧ d = .agg (xs.map (·.1)) := by
            have h' : (if cs.length = P.cellsOf t then ((List.range k).mapM fun i => DataW.trod enc P w 0 spare held fuel e ((cs.drop (i * P.cellsOf e)).take (P.cellsOf e))).map fun xs => (.agg (xs.map (·.1)), xs.flatMap (·.2)) else none) = some (d, ps) := by
              simpa only [DataW.trod, hu] using h
            split at h' <;> first | (cases h'; done) | skip
            rename_i hl
            rw [Option.map_eq_some_iff] at h'
            obtain ⟨xs, h1, h2⟩ := h'
            cases h2
            exact ⟨hl, xs, h1, rfl⟩
          obtain ⟨hl, xs, hxs, rfl⟩ := hcase
          refine ⟨?_, .inr (.inr (.inr (.inr hl)))⟩
          obtain ⟨hlen, hat⟩ := mapM_opt hxs
          simp at hlen
          let css : List (List Value) := (List.range k).map fun i => (cs.drop (i * P.cellsOf e)).take (P.cellsOf e)
          have hparts : ∀ i, i < k → ((cs.drop (i * P.cellsOf e)).take (P.cellsOf e)).length = P.cellsOf e := by
            intro i hi
            have : (i + 1) * P.cellsOf e ≤ k * P.cellsOf e := Nat.mul_le_mul_right _ hi
            rw [Nat.add_mul, Nat.one_mul] at this
            rw [List.length_take, List.length_drop, hl, hsize]; omega
          obtain ⟨h5, h6, h7⟩ := rd_rows (w := w) (c := c) (sz := P.cellsOf e) (ds := xs.map (·.1)) (css := css) (by simp [css, hlen]) (fun i d' cs' hd hc => by
            have hi : i < k := by
              have := (List.getElem?_eq_some_iff.1 hc).1; simpa [css] using this
            obtain ⟨x, h1, h2⟩ := hat i i (by simp [hi])
            rw [List.getElem?_map, h1] at hd
            simp at hd
            simp [css, hi] at hc
            subst hc; subst hd
            exact ⟨(ih n e _ x.1 x.2 hpe h2).1, hparts i hi⟩)
          have hfl : ∀ j, j < k * P.cellsOf e → css.flatten[j]? = cs[j]? := by
            intro j hj
            have hpos : 0 < P.cellsOf e := by
              rcases Nat.eq_zero_or_pos (P.cellsOf e) with h0 | h0
              · rw [h0] at hj; simp at hj
              · exact h0
            have hi : j / P.cellsOf e < k := (Nat.div_lt_iff_lt_mul hpos).2 hj
            have hr : j % P.cellsOf e < P.cellsOf e := Nat.mod_lt _ hpos
            have := flatten_get (sz := P.cellsOf e) (css := css) (fun c hc => by
              simp only [css, List.mem_map, List.mem_range] at hc
              obtain ⟨i, hi, rfl⟩ := hc
              exact hparts i hi) (show css[j / P.cellsOf e]? = some _ from by simp [css, hi]; rfl) hr
            rw [Nat.div_add_mod'] at this
            rw [this, List.getElem?_take, if_pos hr, List.getElem?_drop, Nat.div_add_mod']
          have hle : (xs.map (·.1)).length = k := by simp [hlen]
          refine ⟨by simp only [cellsD]; rw [h5, hle, hl, hsize], by simpa only [cellsD] using h6, ?_⟩
          simp only [cellsD]
          refine VRs_congr h7 fun j hj => hfl j (by rw [h5, hle] at hj; exact hj)
        · -- a struct
          rename_i fs
          simp only [Bool.and_eq_true] at hp
          obtain ⟨hpf, htile⟩ := hp
          have hcase : cs.length = P.cellsOf t ∧ ∃ xs, fs.toList.mapM (fun f => DataW.trod enc P w 0 spare held fuel f.type ((cs.drop f.offset).take (P.cellsOf f.type))) = some xs ∧ d = .agg (xs.map (·.1)) := by
            have h' : (if cs.length = P.cellsOf t then (fs.toList.mapM fun f => DataW.trod enc P w 0 spare held fuel f.type ((cs.drop f.offset).take (P.cellsOf f.type))).map fun xs => (.agg (xs.map (·.1)), xs.flatMap (·.2)) else none) = some (d, ps) := by
              simpa only [DataW.trod, hu] using h
            split at h' <;> first | (cases h'; done) | skip
            rename_i hl
            rw [Option.map_eq_some_iff] at h'
            obtain ⟨xs, h1, h2⟩ := h'
            cases h2
            exact ⟨hl, xs, h1, rfl⟩
          obtain ⟨hl, xs, hxs, rfl⟩ := hcase
          refine ⟨?_, .inr (.inr (.inr (.inr hl)))⟩
          -- field by field
          have key : ∀ (gs : List Field) (off : Nat) (ys : List (DataW H × List MemPlace)), (∀ f, f ∈ gs → plainTy P n f.type = true) → tilesFrom P gs off (P.cellsOf t) = true →
              gs.mapM (fun f => DataW.trod enc P w 0 spare held fuel f.type ((cs.drop f.offset).take (P.cellsOf f.type))) = some ys →
              off + (cellsDs (ys.map (·.1))).length = P.cellsOf t ∧ Leafs (cellsDs (ys.map (·.1))) ∧ VRs w c (cellsDs (ys.map (·.1))) (fun i => cs[off + i]?) := by
            intro gs
            induction gs with
            | nil =>
              intro off ys _ ht hm'
              simp at hm'; subst hm'
              simp only [tilesFrom, beq_iff_eq] at ht
              exact ⟨by simpa [cellsDs] using ht, fun q hq => by simp [cellsDs] at hq, by simp only [List.map_nil, cellsDs, VRs]⟩
            | cons f gs ihg =>
              intro off ys hpl ht hm'
              simp only [tilesFrom, Bool.and_eq_true, beq_iff_eq] at ht
              obtain ⟨ho, ht⟩ := ht
              rw [List.mapM_cons] at hm'
              cases hf : DataW.trod enc P w 0 spare held fuel f.type ((cs.drop f.offset).take (P.cellsOf f.type)) with
              | none => rw [hf] at hm'; cases hm'
              | some x =>
                rw [hf] at hm'
                cases hg : gs.mapM (fun f => DataW.trod enc P w 0 spare held fuel f.type ((cs.drop f.offset).take (P.cellsOf f.type))) with
                | none => rw [hg] at hm'; cases hm'
                | some zs =>
                  rw [hg] at hm'
                  simp at hm'
                  subst hm'
                  obtain ⟨⟨h1, h2, h3⟩, _⟩ := ih n f.type _ x.1 x.2 (hpl f (by simp)) hf
                  obtain ⟨h4, h5, h6⟩ := ihg (off + P.cellsOf f.type) zs (fun g hg => hpl g (by simp [hg])) ht hg
                  have hlf : ((cs.drop f.offset).take (P.cellsOf f.type)).length = P.cellsOf f.type := by
                    simp; omega
                  rw [hlf] at h1
                  refine ⟨by simp only [List.map_cons, cellsDs, List.length_append]; omega, fun q hq => ?_, ?_⟩
                  · simp only [List.map_cons, cellsDs, List.mem_append] at hq
                    exact hq.elim (h2 q) (h5 q)
                  · simp only [List.map_cons, cellsDs]
                    refine VRs_append (VRs_congr h3 fun i hi => ?_) (VRs_congr h6 fun i hi => ?_)
                    · rw [List.getElem?_take, if_pos (by omega), List.getElem?_drop, ho]
                    · rw [h1, Nat.add_assoc]
          obtain ⟨h4, h5, h6⟩ := key fs.toList 0 xs (fun f hf => List.all_eq_true.1 hpf f hf) htile hxs
          refine ⟨by simp only [cellsD]; omega, by simpa only [cellsD] using h5, ?_⟩
          simp only [cellsD]
          exact VRs_congr h6 fun i hi => by rw [Nat.zero_add]

end Go.Ab

/- An abstract calculus over the model's weakest preconditions, part 13: a law's call: its arguments read as plain data, and it leaves them as they were. -/
namespace Go.Ab
open Go.RowKit (Below)
open Go.ChangeShapes Go.WideShapes

/-- what data of a type look like -/
def Fits {H : Type} (P : Program) : Nat → TypeId → DataW H → Prop
  | 0, _, _ => False
  | n + 1, t, d =>
    match P.underlying t with
    | some .bool => ∃ b, d = .lit (.bool b)
    | some (.int k) => ∃ x, d = .lit (.int k x) ∧ (Lit.int k x).wf = true
    | some .string => ∃ l, d = .lit (.string l) ∧ l.length ≤ maxLen
    | some (.slice e) => d = .nil ∨ ∃ es sp, d = .slice es sp ∧ es.length ≤ maxLen ∧ ∀ x, x ∈ es → Fits P n e x
    | some (.array k e) => ∃ xs, d = .agg xs ∧ xs.length = k ∧ ∀ x, x ∈ xs → Fits P n e x
    | some (.struct fs) => ∃ xs, d = .agg xs ∧ xs.length = fs.size ∧ ∀ (i : Nat) f x, fs[i]? = some f → xs[i]? = some x → Fits P n f.type x
    | _ => False

theorem trod_fits {H : Type} {enc : TypeId × Value → H} {P : Program} {w : World} {spare : Nat → Bool} {held : Bool} :
    ∀ (fuel n : Nat) (t : TypeId) (cs : List Value) (d : DataW H) (ps : List MemPlace), plainTy P n t = true → DataW.trod enc P w 0 spare held fuel t cs = some (d, ps) → Fits P n t d := by
  intro fuel
  induction fuel with
  | zero => intro n t cs d ps _ h; simp [DataW.trod] at h
  | succ fuel ih =>
    intro n t cs d ps hp h
    cases n with
    | zero => simp [plainTy] at hp
    | succ n =>
      simp only [plainTy] at hp
      simp only [Fits]
      cases hu : P.underlying t with
      | none => rw [hu] at hp; cases hp
      | some u =>
        rw [hu] at hp
        cases u <;> simp only [Bool.false_eq_true] at hp ⊢
        · cases cs with
          | nil => simp [DataW.trod, hu] at h
          | cons v r => cases r <;> cases v <;> simp [DataW.trod, hu] at h; exact ⟨_, h.1.symm⟩
        · cases cs with
          | nil => simp [DataW.trod, hu] at h
          | cons v r =>
            cases r <;> cases v <;> simp [DataW.trod, hu] at h ⊢
            obtain ⟨⟨h1, h0⟩, h2, _⟩ := h; exact ⟨_, h2.symm, h0⟩
        · cases cs with
          | nil => simp [DataW.trod, hu] at h
          | cons v r => cases r <;> cases v <;> simp [DataW.trod, hu] at h ⊢; exact ⟨_, h.2.1.symm, by simpa using h.1⟩
        · rename_i e
          cases cs with
          | nil => simp [DataW.trod, hu] at h
          | cons v r =>
            cases r with
            | cons v2 r2 => cases v <;> simp [DataW.trod, hu] at h
            | nil =>
              cases v <;> try (simp [DataW.trod, hu] at h; done)
              rename_i a len cap
              cases a with
              | none =>
                cases len <;> cases cap <;> simp [DataW.trod, hu] at h
                exact .inl h.1.symm
              | some a =>
                simp only [DataW.trod, hu] at h
                split at h <;> first | (cases h; done) | skip
                rename_i hcap
                cases hm1 : (List.range len).mapM (fun i => (w.cells? 0 (a.add (i * P.cellsOf e)) (P.cellsOf e)).bind (DataW.trod enc P w 0 spare held fuel e)) with
                | none => rw [hm1] at h; cases h
                | some elems =>
                  rw [hm1] at h
                  simp only [Option.bind_some] at h
                  rw [Option.map_eq_some_iff] at h
                  obtain ⟨rest, _, h2⟩ := h
                  cases h2
                  obtain ⟨hlen, hat⟩ := mapM_opt hm1
                  refine .inr ⟨_, _, rfl, by rw [List.length_map, hlen, List.length_range]; omega, fun x hx => ?_⟩
                  rw [List.mem_map] at hx
                  obtain ⟨y, hy, rfl⟩ := hx
                  obtain ⟨i, hi⟩ := List.mem_iff_getElem?.1 hy
                  have hil : i < len := by have := (List.getElem?_eq_some_iff.1 hi).1; simpa [hlen] using this
                  obtain ⟨z, h3, h4⟩ := hat i i (by simp [hil])
                  rw [hi] at h3; cases h3
                  rw [Option.bind_eq_some_iff] at h4
                  obtain ⟨ci, _, h5⟩ := h4
                  exact ih n e ci y.1 y.2 hp h5
        · rename_i k e
          simp only [Bool.and_eq_true, beq_iff_eq] at hp
          have h' : (if cs.length = P.cellsOf t then ((List.range k).mapM fun i => DataW.trod enc P w 0 spare held fuel e ((cs.drop (i * P.cellsOf e)).take (P.cellsOf e))).map fun xs => (.agg (xs.map (·.1)), xs.flatMap (·.2)) else none) = some (d, ps) := by
            simpa only [DataW.trod, hu] using h
          split at h' <;> first | (cases h'; done) | skip
          rw [Option.map_eq_some_iff] at h'
          obtain ⟨xs, h1, h2⟩ := h'
          cases h2
          obtain ⟨hlen, hat⟩ := mapM_opt h1
          refine ⟨_, rfl, by simpa using hlen, fun x hx => ?_⟩
          rw [List.mem_map] at hx
          obtain ⟨y, hy, rfl⟩ := hx
          obtain ⟨i, hi⟩ := List.mem_iff_getElem?.1 hy
          have hil : i < k := by have := (List.getElem?_eq_some_iff.1 hi).1; simpa [hlen] using this
          obtain ⟨z, h3, h4⟩ := hat i i (by simp [hil])
          rw [hi] at h3; cases h3
          exact ih n e _ y.1 y.2 hp.1 h4
        · rename_i fs
          simp only [Bool.and_eq_true] at hp
          have h' : (if cs.length = P.cellsOf t then (fs.toList.mapM fun f => DataW.trod enc P w 0 spare held fuel f.type ((cs.drop f.offset).take (P.cellsOf f.type))).map fun xs => (.agg (xs.map (·.1)), xs.flatMap (·.2)) else none) = some (d, ps) := by
            simpa only [DataW.trod, hu] using h
          split at h' <;> first | (cases h'; done) | skip
          rw [Option.map_eq_some_iff] at h'
          obtain ⟨xs, h1, h2⟩ := h'
          cases h2
          obtain ⟨hlen, hat⟩ := mapM_opt h1
          refine ⟨_, rfl, by simpa using hlen, fun i f x hf hx => ?_⟩
          rw [List.getElem?_map] at hx
          cases hy : xs[i]? with
          | none => rw [hy] at hx; cases hx
          | some y =>
            rw [hy] at hx; simp at hx; subst hx
            obtain ⟨z, h3, h4⟩ := hat i f (by simpa using hf)
            rw [hy] at h3; cases h3
            exact ih n f.type _ y.1 y.2 (List.all_eq_true.1 hp.1 f (by simpa using Array.mem_of_getElem? hf)) h4

/-- an argument's abstract value -/
def argPV {H : Type} (P : Program) (t : TypeId) (d : DataW H) : PV := bif tyAgg P t == some true then .agg (cellsD d) else (cellsD d).headD .dead

def cx0 : Cx := { m := [], T := [], ok := fun _ _ => True }

theorem arg_rel {H : Type} {enc : TypeId × Value → H} {P : Program} {w : World} {n : Nat} {t : TypeId} {v : Value} {d : DataW H} {ps : List MemPlace} {spare : Nat → Bool} {held : Bool} {base : Nat} (hp : plainTy P n t = true)
    (hv : Value.okWide P w .any base t v) (h : DataW.Trod enc P w 0 spare held t v d ps) : VR w cx0 (argPV P t d) v := by
  obtain ⟨fuel, hf⟩ := h
  obtain ⟨⟨h1, h2, h3⟩, _⟩ := trod_rd (w := w) (c := cx0) rfl rfl (fun _ _ => trivial) fuel n t _ d ps hp hf
  have leafy : tyAgg P t = some false → v.cells = #[v] → VR w cx0 (argPV P t d) v := by
    intro ha hc
    rw [hc] at h1 h3
    unfold argPV
    rw [ha]
    cases hcd : cellsD d with
    | nil => rw [hcd] at h1; simp at h1
    | cons p r =>
      rw [hcd] at h3
      simp only [VRs] at h3
      obtain ⟨⟨u, hu, hr⟩, _⟩ := h3
      simp at hu; subst hu
      exact hr
  cases n with
  | zero => simp [plainTy] at hp
  | succ n =>
    simp only [plainTy] at hp
    cases hu : P.underlying t with
    | none => rw [hu] at hp; cases hp
    | some u =>
      rw [hu] at hp
      cases u <;> simp only [Bool.false_eq_true] at hp
      · obtain ⟨b, rfl⟩ := okWide_bool hu hv
        exact leafy (by simp [tyAgg, hu]) rfl
      · obtain ⟨x, rfl⟩ := okWide_int hu hv
        exact leafy (by simp [tyAgg, hu]) rfl
      · obtain ⟨x, rfl⟩ := okWide_string hu hv
        exact leafy (by simp [tyAgg, hu]) rfl
      · obtain ⟨a, l, c, rfl⟩ := okWide_slice hu hv
        exact leafy (by simp [tyAgg, hu]) rfl
      · have ha : tyAgg P t = some true := by simp [tyAgg, hu]
        simp only [Value.okWide, hu] at hv
        obtain ⟨cs, rfl, _⟩ := hv
        unfold argPV; rw [ha]
        simp only [BEq.rfl, cond_true, VR]
        exact ⟨cs, rfl, by simpa [Value.cells] using h1.symm, h2, by simpa [Value.cells] using h3⟩
      · have ha : tyAgg P t = some true := by simp [tyAgg, hu]
        simp only [Value.okWide, hu] at hv
        obtain ⟨cs, rfl, _⟩ := hv
        unfold argPV; rw [ha]
        simp only [BEq.rfl, cond_true, VR]
        exact ⟨cs, rfl, by simpa [Value.cells] using h1.symm, h2, by simpa [Value.cells] using h3⟩

theorem args_rel {H : Type} {enc : TypeId × Value → H} {P : Program} {w : World} {n : Nat} {spare : Nat → Bool} {held : Bool} {base : Nat} : ∀ {ts : List TypeId} {vs : List Value} {ds : List (DataW H)} {ps : List MemPlace},
    DataW.TrodAll enc P w 0 spare held ts vs ds ps → (∀ t, t ∈ ts → plainTy P n t = true) → (∀ (j : Nat) t v, ts[j]? = some t → vs[j]? = some v → Value.okWide P w .any base t v) →
    vs.length = (List.zipWith (argPV P) ts ds).length ∧ VRs w cx0 (List.zipWith (argPV P) ts ds) (fun i => vs[i]?)
  | [], vs, ds, ps, h, _, _ => by
    cases vs <;> cases ds <;> simp [DataW.TrodAll] at h
    exact ⟨rfl, by simp only [List.zipWith_nil_left, VRs]⟩
  | t :: ts, vs, ds, ps, h, hp, hv => by
    obtain ⟨v, vs', d, ds', p, q, rfl, rfl, rfl, h1, h2⟩ := trodAll_cons h
    obtain ⟨h3, h4⟩ := args_rel h2 (fun t ht => hp t (by simp [ht])) (fun j t v ht hv' => hv (j + 1) t v (by simpa using ht) (by simpa using hv'))
    refine ⟨by simp only [List.zipWith_cons_cons, List.length_cons, h3], ?_⟩
    simp only [List.zipWith_cons_cons, VRs]
    exact ⟨⟨v, rfl, arg_rel (hp t (by simp)) (hv 0 t v rfl rfl) h1⟩, by simpa using h4⟩

theorem args_fit {H : Type} {enc : TypeId × Value → H} {P : Program} {w : World} {n : Nat} {spare : Nat → Bool} {held : Bool} : ∀ {ts : List TypeId} {vs : List Value} {ds : List (DataW H)} {ps : List MemPlace},
    DataW.TrodAll enc P w 0 spare held ts vs ds ps → (∀ t, t ∈ ts → plainTy P n t = true) → ∀ (j : Nat) t d, ts[j]? = some t → ds[j]? = some d → Fits P n t d
  | [], vs, ds, ps, h, _, j, t, d, ht, _ => by simp at ht
  | t :: ts, vs, ds, ps, h, hp, j, t', d', ht, hd => by
    obtain ⟨v, vs', d, ds', p, q, rfl, rfl, rfl, h1, h2⟩ := trodAll_cons h
    cases j with
    | zero =>
      simp at ht hd; subst ht; subst hd
      obtain ⟨fuel, hf⟩ := h1
      exact trod_fits fuel n t _ d p (hp t (by simp)) hf
    | succ j => exact args_fit h2 (fun t ht => hp t (by simp [ht])) j t' d' (by simpa using ht) (by simpa using hd)

theorem cx0_good (w : World) : Good w cx0 [] (List.replicate 0 false) where
  len := rfl
  inj := fun i j k h => by simp [cx0] at h
  obj := fun b o h => by simp at h
  tl := rfl
  tal := fun i h => by simp at h
  tdead := fun i h => by simp at h
  tok := fun i k j h => by simp [cx0] at h
  tinj := fun i i' k j j' h => by simp [cx0] at h
  okn := fun _ _ _ => trivial
  okm := fun _ _ _ _ _ => trivial
  okt := fun _ _ _ _ _ => trivial
  oko := fun _ _ _ _ _ => trivial

/-- A law, called with arguments that read as plain data: it answers true, and nothing that was there has turned. -/
theorem law_calls {H : Type} {enc : TypeId × Value → H} {P : Program} {f : FuncId} {W : World} {n : Nat} {spare : Nat → Bool} {held : Bool} {base : Nat} {ts : List TypeId} {args : Array Value} {ds : List (DataW H)}
    {ps : List MemPlace} (hA : DataW.TrodAll enc P W 0 spare held ts args.toList ds ps) (hp : ∀ t, t ∈ ts → plainTy P n t = true)
    (hv : ∀ (j : Nat) t v, ts[j]? = some t → args[j]? = some v → Value.okWide P W .any base t v)
    (hc : ACalls P f (List.zipWith (argPV P) ts ds) [] 0 (fun p _ _ => p = .val (.bool true))) :
    Calls P f args W fun e W' => e = .returned (.bool true) ∧ Below W.heap.size W W' := by
  obtain ⟨h1, h2⟩ := args_rel hA hp (fun j t v ht hv' => hv j t v ht (by simpa using hv'))
  refine (hc W cx0 args (cx0_good W) rfl (by simpa using h1) (by simpa using h2)).mono ?_
  rintro e W' ⟨v, p, H', ts', c', rfl, rfl, _, hvr, x⟩
  rw [VR_val_iff] at hvr
  refine ⟨by rw [hvr.1], x.os, x.tape, x.output, x.size, fun k hk => x.blocks k hk (by simp [cx0]) (fun i j h => by simp [cx0] at h)⟩

/-- The arguments read again. -/
theorem args_again {H : Type} {enc : TypeId × Value → H} {P : Program} {W W' : World} (hl : laidOutB P = true) (bel : Below W.heap.size W W') : ∀ {ts : List TypeId} {vs : List Value} {ds : List (DataW H)} {ps : List MemPlace},
    DataW.TrodAll enc P W 0 (fun _ => true) true ts vs ds ps → (∀ t, t ∈ ts → P.readableRec t = true ∧ t < P.types.size) →
    DataW.TrodAll enc P W' 0 (fun b => decide (b < W.heap.size)) true ts vs ds ps
  | [], vs, ds, ps, h, _ => by
    cases vs <;> cases ds <;> simp [DataW.TrodAll] at h
    subst h; rfl
  | t :: ts, vs, ds, ps, h, hp => by
    obtain ⟨v, vs', d, ds', p, q, rfl, rfl, rfl, h1, h2⟩ := trodAll_cons h
    have hlt : ∀ x ∈ p, x.block < W.heap.size := by obtain ⟨m, hm⟩ := h1; exact DataW.trod_lt m _ _ _ hm
    exact trodAll_cons_mk (Below.trod hl (hp t (by simp)).1 (hp t (by simp)).2 h1 bel hlt) (args_again hl bel h2 (fun t ht => hp t (by simp [ht])))

end Go.Ab

/- An abstract calculus over the model's weakest preconditions, part 14: what arguments of plain data look like, by their types. -/
namespace Go.Ab

theorem argPV_agg {H : Type} {P : Program} {t : TypeId} {d : DataW H} (h : tyAgg P t = some true) : argPV P t d = .agg (cellsD d) := by
  unfold argPV; rw [h]; rfl

theorem argPV_int {H : Type} {P : Program} {t : TypeId} {k : IntKind} {x : Int} (h : tyAgg P t = some false) : argPV P t (.lit (.int k x) : DataW H) = .val (.int k x) := by
  unfold argPV; rw [h]; rfl

theorem argPV_bool {H : Type} {P : Program} {t : TypeId} {b : Bool} (h : tyAgg P t = some false) : argPV P t (.lit (.bool b) : DataW H) = .val (.bool b) := by
  unfold argPV; rw [h]; rfl

theorem argPV_str {H : Type} {P : Program} {t : TypeId} {l : List UInt8} (h : tyAgg P t = some false) : argPV P t (.lit (.string l) : DataW H) = .val (.string ⟨l.toArray⟩) := by
  unfold argPV; rw [h]; rfl

theorem fits_bool {H : Type} {P : Program} {n : Nat} {t : TypeId} {d : DataW H} (hu : P.underlying t = some .bool) (h : Fits P n t d) : ∃ b, d = .lit (.bool b) := by
  cases n with
  | zero => cases h
  | succ n => simpa only [Fits, hu] using h

theorem fits_int {H : Type} {P : Program} {n : Nat} {t : TypeId} {k : IntKind} {d : DataW H} (hu : P.underlying t = some (.int k)) (h : Fits P n t d) : ∃ x, d = .lit (.int k x) ∧ (Lit.int k x).wf = true := by
  cases n with
  | zero => cases h
  | succ n => simpa only [Fits, hu] using h

theorem fits_str {H : Type} {P : Program} {n : Nat} {t : TypeId} {d : DataW H} (hu : P.underlying t = some .string) (h : Fits P n t d) : ∃ l, d = .lit (.string l) ∧ l.length ≤ maxLen := by
  cases n with
  | zero => cases h
  | succ n => simpa only [Fits, hu] using h

theorem fits_arr {H : Type} {P : Program} {n : Nat} {t e : TypeId} {k : Nat} {d : DataW H} (hu : P.underlying t = some (.array k e)) (h : Fits P n t d) :
    ∃ m xs, n = m + 1 ∧ d = .agg xs ∧ xs.length = k ∧ ∀ x, x ∈ xs → Fits P m e x := by
  cases n with
  | zero => cases h
  | succ n =>
    simp only [Fits, hu] at h
    obtain ⟨xs, h1, h2, h3⟩ := h
    exact ⟨n, xs, rfl, h1, h2, h3⟩

theorem fits_slice {H : Type} {P : Program} {n : Nat} {t e : TypeId} {d : DataW H} (hu : P.underlying t = some (.slice e)) (h : Fits P n t d) :
    ∃ m, n = m + 1 ∧ (d = .nil ∨ ∃ es sp, d = .slice es sp ∧ es.length ≤ maxLen ∧ ∀ x, x ∈ es → Fits P m e x) := by
  cases n with
  | zero => cases h
  | succ n =>
    simp only [Fits, hu] at h
    exact ⟨n, rfl, h⟩

theorem fits_struct {H : Type} {P : Program} {n : Nat} {t : TypeId} {fs : Array Field} {d : DataW H} (hu : P.underlying t = some (.struct fs)) (h : Fits P n t d) :
    ∃ m xs, n = m + 1 ∧ d = .agg xs ∧ xs.length = fs.size ∧ ∀ (i : Nat) f x, fs[i]? = some f → xs[i]? = some x → Fits P m f.type x := by
  cases n with
  | zero => cases h
  | succ n =>
    simp only [Fits, hu] at h
    obtain ⟨xs, h1, h2, h3⟩ := h
    exact ⟨n, xs, rfl, h1, h2, h3⟩

theorem cellsDs_flat {H : Type} : ∀ {l : List (DataW H)}, cellsDs l = l.flatMap cellsD
  | [] => by simp [cellsDs]
  | d :: l => by simp [cellsDs, cellsDs_flat (l := l)]

/-- an array of whole numbers -/
theorem fits_ints {H : Type} {P : Program} {n : Nat} {t e : TypeId} {k : Nat} {kd : IntKind} {d : DataW H} (hu : P.underlying t = some (.array k e)) (he : P.underlying e = some (.int kd)) (h : Fits P n t d) :
    ∃ zs : List Int, zs.length = k ∧ cellsD d = zs.map (fun z => .val (.int kd z)) ∧ ∀ z, z ∈ zs → (Lit.int kd z).wf = true := by
  obtain ⟨m, xs, _, rfl, hl, hx⟩ := fits_arr hu h
  subst hl
  clear hu h
  induction xs with
  | nil => exact ⟨[], rfl, by simp [cellsD, cellsDs], by simp⟩
  | cons x xs ih =>
    obtain ⟨z, rfl, hz⟩ := fits_int he (hx x (by simp))
    obtain ⟨zs, h1, h2, h3⟩ := ih (fun y hy => hx y (by simp [hy]))
    refine ⟨z :: zs, by simp [h1], ?_, ?_⟩
    · simp only [cellsD] at h2
      simp [cellsD, cellsDs, h2]
    · intro y hy
      rcases List.mem_cons.1 hy with rfl | hy
      · exact hz
      · exact h3 y hy

/-- an array of truths -/
theorem fits_bools {H : Type} {P : Program} {n : Nat} {t e : TypeId} {k : Nat} {d : DataW H} (hu : P.underlying t = some (.array k e)) (he : P.underlying e = some .bool) (h : Fits P n t d) :
    ∃ zs : List Bool, zs.length = k ∧ cellsD d = zs.map (fun z => .val (.bool z)) := by
  obtain ⟨m, xs, _, rfl, hl, hx⟩ := fits_arr hu h
  subst hl
  clear hu h
  induction xs with
  | nil => exact ⟨[], rfl, by simp [cellsD, cellsDs]⟩
  | cons x xs ih =>
    obtain ⟨z, rfl⟩ := fits_bool he (hx x (by simp))
    obtain ⟨zs, h1, h2⟩ := ih (fun y hy => hx y (by simp [hy]))
    refine ⟨z :: zs, by simp [h1], ?_⟩
    simp only [cellsD] at h2
    simp [cellsD, cellsDs, h2]

theorem list_four {α : Type} {l : List α} (h : l.length = 4) : ∃ a b c d, l = [a, b, c, d] := by
  match l, h with
  | [a, b, c, d], _ => exact ⟨a, b, c, d, rfl⟩

end Go.Ab

/- An abstract calculus over the model's weakest preconditions, part 15: arrays and structs of plain parts, compared. -/
set_option linter.unusedSimpArgs false
set_option linter.unusedVariables false
namespace Go.Ab

/-- types whose values are compared part by part -/
def eqTy (P : Program) : Nat → TypeId → Bool
  | 0, _ => false
  | n + 1, t =>
    match P.underlying t with
    | some .bool | some (.int _) | some .string => true
    | some (.array k e) => eqTy P n e && P.cellsOf t == k * P.cellsOf e
    | some (.struct fs) => fs.toList.all (fun f => f.name != "_" && eqTy P n f.type) && tilesFrom P fs.toList 0 (P.cellsOf t) && !P.stoodInHeld t
    | _ => false

/-- what cells of such a type look like -/
def Shaped (P : Program) : Nat → TypeId → List Value → Prop
  | 0, _, _ => False
  | n + 1, t, cs =>
    match P.underlying t with
    | some .bool => ∃ b, cs = [.bool b]
    | some (.int k) => ∃ x, cs = [.int k x]
    | some .string => ∃ s, cs = [.string s]
    | some (.array k e) => cs.length = P.cellsOf t ∧ ∀ i, i < k → Shaped P n e ((cs.drop (i * P.cellsOf e)).take (P.cellsOf e))
    | some (.struct fs) => cs.length = P.cellsOf t ∧ ∀ f, f ∈ fs.toList → Shaped P n f.type ((cs.drop f.offset).take (P.cellsOf f.type))
    | _ => False

theorem chunk_ext {α : Type} {xs ys : List α} {n c : Nat} (hx : xs.length = n * c) (hy : ys.length = n * c) (h : ∀ i, i < n → (xs.drop (i * c)).take c = (ys.drop (i * c)).take c) : xs = ys := by
  refine List.ext_getElem? fun j => ?_
  by_cases hj : j < n * c
  · have hc : 0 < c := Nat.pos_of_ne_zero fun e => by subst e; simp at hj
    have hi : j / c < n := by rw [Nat.div_lt_iff_lt_mul hc]; exact hj
    have := congrArg (fun l => l[j % c]?) (h (j / c) hi)
    simp only [List.getElem?_take_of_lt (Nat.mod_lt j hc), List.getElem?_drop] at this
    have e : j / c * c + j % c = j := Nat.div_add_mod' j c
    rw [e] at this; exact this
  · rw [List.getElem?_eq_none (by omega), List.getElem?_eq_none (by omega)]

theorem tiles_ext {α : Type} {P : Program} {xs ys : List α} : ∀ {fs : List Field} {off n : Nat}, tilesFrom P fs off n = true → (∀ f, f ∈ fs → (xs.drop f.offset).take (P.cellsOf f.type) = (ys.drop f.offset).take (P.cellsOf f.type)) →
    ∀ j, off ≤ j → j < n → xs[j]? = ys[j]?
  | [], off, n, ht, _, j, h1, h2 => by simp [tilesFrom] at ht; omega
  | f :: fs, off, n, ht, h, j, h1, h2 => by
    simp only [tilesFrom, Bool.and_eq_true, beq_iff_eq] at ht
    obtain ⟨rfl, ht⟩ := ht
    by_cases hj : j < f.offset + P.cellsOf f.type
    · have := congrArg (fun l => l[j - f.offset]?) (h f (by simp))
      simp only [List.getElem?_take_of_lt (show j - f.offset < P.cellsOf f.type by omega), List.getElem?_drop] at this
      rw [show f.offset + (j - f.offset) = j by omega] at this; exact this
    · exact tiles_ext ht (fun g hg => h g (by simp [hg])) j (by omega) h2

section
variable {P : Program} (w : World)

theorem shaped_len {n m : Nat} {t : TypeId} {cs ds : List Value} (h : Shaped P n t cs) (h2 : Shaped P m t ds) : cs.length = ds.length := by
  cases n with
  | zero => cases h
  | succ n =>
    cases m with
    | zero => cases h2
    | succ m =>
      simp only [Shaped] at h h2
      cases hu : P.underlying t with
      | none => rw [hu] at h; cases h
      | some u =>
        rw [hu] at h h2
        cases u <;> simp only at h h2
        · obtain ⟨_, rfl⟩ := h; obtain ⟨_, rfl⟩ := h2; rfl
        · obtain ⟨_, rfl⟩ := h; obtain ⟨_, rfl⟩ := h2; rfl
        · obtain ⟨_, rfl⟩ := h; obtain ⟨_, rfl⟩ := h2; rfl
        · rw [h.1, h2.1]
        · rw [h.1, h2.1]

/-- a part of a value's cells, taken out -/
theorem run_part_shaped {e : TypeId} {n off : Nat} {xs : Array Value} (ha : Shaped P n e ((xs.toList.drop off).take (P.cellsOf e))) :
    ∃ a, (part e xs off).run P w = .ok a w ∧ a.formed P e = true ∧ a.cells.toList = (xs.toList.drop off).take (P.cellsOf e) := by
  cases n with
  | zero => cases ha
  | succ n =>
    simp only [Shaped] at ha
    cases hu : P.underlying e with
    | none => rw [hu] at ha; cases ha
    | some kd =>
      rw [hu] at ha
      have agg : (match kd with | .array _ _ | .struct _ => true | _ => false) = true → ((xs.toList.drop off).take (P.cellsOf e)).length = P.cellsOf e →
          ∃ a, (part e xs off).run P w = .ok a w ∧ a.formed P e = true ∧ a.cells.toList = (xs.toList.drop off).take (P.cellsOf e) := fun hk hlen => by
        obtain ⟨i, hi⟩ := info_of_underlying hu
        have hl : (xs.extract off (off + P.cellsOf e)).toList = (xs.toList.drop off).take (P.cellsOf e) := by
          rw [Array.toList_extract]; simp [List.extract]
        have hs : (xs.extract off (off + P.cellsOf e)).size = P.cellsOf e := by rw [← Array.length_toList, hl, hlen]
        refine ⟨.agg (xs.extract off (off + P.cellsOf e)), ?_, ?_, hl⟩
        · cases kd <;> simp at hk <;> simp [part, isAgg, Go.run_underlying hu, Go.run_sizeOf w hi]
        · cases kd <;> simp at hk <;> simp [Value.formed, hu, hs]
      cases kd <;> simp only at ha
      · obtain ⟨b, hb⟩ := ha
        exact ⟨Value.bool b, by simp [part, isAgg, Go.run_underlying hu, getElem?_of_chunk hb], by simp [Value.formed, hu], by rw [hb]; rfl⟩
      · rename_i q
        obtain ⟨b, hb⟩ := ha
        exact ⟨Value.int q b, by simp [part, isAgg, Go.run_underlying hu, getElem?_of_chunk hb], by simp [Value.formed, hu], by rw [hb]; rfl⟩
      · obtain ⟨b, hb⟩ := ha
        exact ⟨Value.string b, by simp [part, isAgg, Go.run_underlying hu, getElem?_of_chunk hb], by simp [Value.formed, hu], by rw [hb]; rfl⟩
      · exact agg rfl ha.1
      · exact agg rfl ha.1

def EqS (P : Program) (dd n : Nat) (e : TypeId) : Prop :=
  ∀ (w : World) (a b : Value), a.formed P e = true → b.formed P e = true → Shaped P n e a.cells.toList → Shaped P n e b.cells.toList →
    ∃ r : Bool, (Op.equalIn dd e a b).run P w = .ok r w ∧ (r = true ↔ a.cells.toList = b.cells.toList)

theorem run_step_shaped {e : TypeId} {dd n off : Nat} (IH : EqS P dd n e) {xs ys : Array Value}
    (ha : Shaped P n e ((xs.toList.drop off).take (P.cellsOf e))) (hb : Shaped P n e ((ys.toList.drop off).take (P.cellsOf e))) :
    ∃ a b r, (part e xs off).run P w = .ok a w ∧ (part e ys off).run P w = .ok b w ∧ (Op.equalIn dd e a b).run P w = .ok r w ∧
      (r = true ↔ (xs.toList.drop off).take (P.cellsOf e) = (ys.toList.drop off).take (P.cellsOf e)) := by
  obtain ⟨a, p1, f1, c1⟩ := run_part_shaped w ha
  obtain ⟨b, p2, f2, c2⟩ := run_part_shaped w hb
  obtain ⟨r, hr, hiff⟩ := IH w a b f1 f2 (by rw [c1]; exact ha) (by rw [c2]; exact hb)
  exact ⟨a, b, r, p1, p2, hr, by rw [hiff, c1, c2]⟩

theorem run_eqFields_shaped (dd n : Nat) (xs ys : Array Value) : ∀ (fs : List Field), (∀ f ∈ fs, f.name ≠ "_" ∧ EqS P dd n f.type) →
    (∀ f ∈ fs, Shaped P n f.type ((xs.toList.drop f.offset).take (P.cellsOf f.type))) → (∀ f ∈ fs, Shaped P n f.type ((ys.toList.drop f.offset).take (P.cellsOf f.type))) →
    ∃ r : Bool, (Op.eqFields dd xs ys fs).run P w = .ok r w ∧ (r = true ↔ ∀ f ∈ fs, (xs.toList.drop f.offset).take (P.cellsOf f.type) = (ys.toList.drop f.offset).take (P.cellsOf f.type))
  | [], _, _, _ => ⟨true, by simp [Op.eqFields], by simp⟩
  | f :: fs, hall, ha, hb => by
    obtain ⟨hn, hp⟩ := hall f (by simp)
    obtain ⟨a, b, r, p1, p2, p3, hiff⟩ := run_step_shaped w hp (ha f (by simp)) (hb f (by simp))
    obtain ⟨r', hr', hiff'⟩ := run_eqFields_shaped dd n xs ys fs (fun g hg => hall g (by simp [hg])) (fun g hg => ha g (by simp [hg])) (fun g hg => hb g (by simp [hg]))
    simp only [Op.eqFields, hn, ne_eq, not_false_eq_true, if_true, Sem.run_bind, p1, p2, p3, Result.andThen_ok]
    cases r
    · exact ⟨false, by simp, ⟨fun h => (by cases h), fun h => hiff.2 (h f (by simp))⟩⟩
    · refine ⟨r', by simpa using hr', ?_⟩
      rw [hiff']
      exact ⟨fun h g hg => (List.mem_cons.1 hg).elim (fun e => by subst e; exact hiff.1 rfl) (h g), fun h g hg => h g (by simp [hg])⟩

theorem run_eqItems_shaped (dd n : Nat) {e : TypeId} (IH : EqS P dd n e) (xs ys : Array Value) : ∀ (is : List Nat),
    (∀ i ∈ is, Shaped P n e ((xs.toList.drop (i * P.cellsOf e)).take (P.cellsOf e))) → (∀ i ∈ is, Shaped P n e ((ys.toList.drop (i * P.cellsOf e)).take (P.cellsOf e))) →
    ∃ r : Bool, (Op.eqItems dd e (P.cellsOf e) xs ys is).run P w = .ok r w ∧ (r = true ↔ ∀ i ∈ is, (xs.toList.drop (i * P.cellsOf e)).take (P.cellsOf e) = (ys.toList.drop (i * P.cellsOf e)).take (P.cellsOf e))
  | [], _, _ => ⟨true, by simp [Op.eqItems], by simp⟩
  | i :: is, ha, hb => by
    obtain ⟨a, b, r, p1, p2, p3, hiff⟩ := run_step_shaped w IH (ha i (by simp)) (hb i (by simp))
    obtain ⟨r', hr', hiff'⟩ := run_eqItems_shaped dd n IH xs ys is (fun g hg => ha g (by simp [hg])) (fun g hg => hb g (by simp [hg]))
    simp only [Op.eqItems, Sem.run_bind, p1, p2, p3, Result.andThen_ok]
    cases r
    · exact ⟨false, by simp, ⟨fun h => (by cases h), fun h => hiff.2 (h i (by simp))⟩⟩
    · refine ⟨r', by simpa using hr', ?_⟩
      rw [hiff']
      exact ⟨fun h g hg => (List.mem_cons.1 hg).elim (fun e => by subst e; exact hiff.1 rfl) (h g), fun h g hg => h g (by simp [hg])⟩
end

theorem eq_shaped {P : Program} (d : Nat) : ∀ (n : Nat) (t : TypeId), eqTy P n t = true → EqS P (d + n) n t
  | 0, _, h => by cases h
  | n + 1, t, hk => by
    intro w x y fx fy hx hy
    simp only [eqTy] at hk
    simp only [Shaped] at hx hy
    cases hu : P.underlying t with
    | none => rw [hu] at hk; cases hk
    | some kd =>
      rw [hu] at hk hx hy
      cases kd <;> simp only [Bool.false_eq_true] at hk hx hy
      · obtain ⟨a, ha⟩ := hx
        obtain ⟨b, hb⟩ := hy
        have hxv : x = .bool a := by cases x <;> simp_all [Value.cells, Value.formed]
        have hyv : y = .bool b := by cases y <;> simp_all [Value.cells, Value.formed]
        subst hxv; subst hyv
        exact ⟨a == b, run_equalIn_bool w (d + n) t a b hu, by simp [Value.cells]⟩
      · rename_i q
        obtain ⟨a, ha⟩ := hx
        obtain ⟨b, hb⟩ := hy
        have hxv : x = .int q a := by cases x <;> simp_all [Value.cells, Value.formed]
        have hyv : y = .int q b := by cases y <;> simp_all [Value.cells, Value.formed]
        subst hxv; subst hyv
        exact ⟨a == b, run_equalIn_int w (d + n) t q q a b hu, by simp [Value.cells]⟩
      · obtain ⟨a, ha⟩ := hx
        obtain ⟨b, hb⟩ := hy
        have hxv : x = .string a := by cases x <;> simp_all [Value.cells, Value.formed]
        have hyv : y = .string b := by cases y <;> simp_all [Value.cells, Value.formed]
        subst hxv; subst hyv
        exact ⟨a.toList == b.toList, run_equalIn_string w (d + n) t a b hu, by
          simp [Value.cells, ByteArray.toList_eq]
          exact ⟨fun h => by cases a; cases b; simpa using h, fun h => by rw [h]⟩⟩
      · rename_i k e
        simp only [Bool.and_eq_true, beq_iff_eq] at hk
        cases x <;> simp only [Value.formed, hu, Bool.false_eq_true] at fx
        cases y <;> simp only [Value.formed, hu, Bool.false_eq_true] at fy
        rename_i xs ys
        have hpe : ∃ i, P.info? e = some i := by
          cases n with
          | zero => simp [eqTy] at hk
          | succ m =>
            have h1 := hk.1
            simp only [eqTy] at h1
            cases hue : P.underlying e with
            | none => simp [hue] at h1
            | some _ => exact info_of_underlying hue
        obtain ⟨i, hi⟩ := hpe
        simp only [Value.cells] at hx hy ⊢
        obtain ⟨r, hr, hiff⟩ := run_eqItems_shaped w (d + n) n (eq_shaped d n e hk.1) xs ys (List.range k) (fun i hi => hx.2 i (by simpa using hi)) (fun i hi => hy.2 i (by simpa using hi))
        refine ⟨r, by rw [show d + (n + 1) = (d + n) + 1 from rfl, run_equalIn_array w (d + n) xs ys hu hi]; exact hr, ?_⟩
        rw [hiff]
        exact ⟨fun h => chunk_ext (by rw [hx.1, hk.2]) (by rw [hy.1, hk.2]) fun i hi => h i (by simpa using hi), fun h i _ => by rw [h]⟩
      · rename_i fs
        simp only [Bool.and_eq_true, Bool.not_eq_true'] at hk
        cases x <;> simp only [Value.formed, hu, Bool.false_eq_true] at fx
        cases y <;> simp only [Value.formed, hu, Bool.false_eq_true] at fy
        rename_i xs ys
        simp only [Value.cells] at hx hy ⊢
        have hfs : P.fieldsOf t = fs := by simp [Program.fieldsOf, hu]
        obtain ⟨r, hr, hiff⟩ := run_eqFields_shaped w (d + n) n xs ys fs.toList (fun f hf => by
          have := List.all_eq_true.1 hk.1.1 f hf
          simp only [Bool.and_eq_true, bne_iff_ne, ne_eq] at this
          exact ⟨this.1, eq_shaped d n f.type this.2⟩) hx.2 hy.2
        refine ⟨r, by rw [show d + (n + 1) = (d + n) + 1 from rfl, run_equalIn_struct w (d + n) t xs ys (by rw [hfs]; exact hu) hk.2, hfs]; exact hr, ?_⟩
        rw [hiff]
        refine ⟨fun h => List.ext_getElem? fun j => ?_, fun h f _ => by rw [h]⟩
        by_cases hj : j < P.cellsOf t
        · exact tiles_ext hk.1.2 h j (by omega) hj
        · rw [List.getElem?_eq_none (by rw [hx.1]; omega), List.getElem?_eq_none (by rw [hy.1]; omega)]

theorem VRs_vals {w : World} {c : Cx} : ∀ {vs : List Value} {f : Nat → Option Value}, VRs w c (vs.map PV.val) f → ∀ i, i < vs.length → f i = vs[i]?
  | [], f, h, i, hi => by simp at hi
  | v :: vs, f, h, i, hi => by
    simp only [List.map_cons, VRs] at h
    obtain ⟨⟨u, hu, hr⟩, h2⟩ := h
    rw [VR_val_iff] at hr
    cases i with
    | zero => rw [hu, hr.1]; rfl
    | succ i => simpa using VRs_vals h2 i (by simpa using hi)

theorem agg_vals {w : World} {c : Cx} {vs : List Value} {v : Value} (h : VR w c (.agg (vs.map PV.val)) v) : v = .agg vs.toArray := by
  simp only [VR] at h
  obtain ⟨cs, rfl, hl, _, hv⟩ := h
  congr 1
  rw [← Array.toList_inj]
  refine List.ext_getElem? fun i => ?_
  have hl' : cs.toList.length = vs.length := by simpa using hl
  by_cases hi : i < vs.length
  · have := VRs_vals hv i hi
    simpa using this
  · rw [List.getElem?_eq_none (by rw [hl']; omega), List.getElem?_eq_none (by simp; omega)]

theorem equal_aggs {P : Program} {w : World} {n : Nat} {t : TypeId} {vs us : List Value} {r : Bool} (hn : n ≤ 10000) (ht : eqTy P n t = true) (ha : tyAgg P t = some true) (h1 : Shaped P n t vs) (h2 : Shaped P n t us) (hr : r = true ↔ vs = us) :
    (Op.equalIn 10000 t (.agg vs.toArray) (.agg us.toArray)).run P w = .ok r w := by
  have form : ∀ ws : List Value, Shaped P n t ws → (Value.agg ws.toArray).formed P t = true := fun ws hs => by
    cases n with
    | zero => cases hs
    | succ n =>
      simp only [Shaped] at hs
      unfold tyAgg at ha
      cases hu : P.underlying t with
      | none => rw [hu] at ha; cases ha
      | some kd =>
        rw [hu] at ha hs
        cases kd <;> simp at ha <;> simp only at hs <;> simp [Value.formed, hu, hs.1]
  obtain ⟨r', hr', hiff⟩ := eq_shaped (P := P) (10000 - n) n t ht w (.agg vs.toArray) (.agg us.toArray) (form _ h1) (form _ h2) (by simpa [Value.cells] using h1) (by simpa [Value.cells] using h2)
  rw [show 10000 - n + n = 10000 by omega] at hr'
  have : r' = r := by
    rw [Bool.eq_iff_iff, hiff, hr]; simp [Value.cells]
  rw [← this]; exact hr'

theorem q_eqAgg {P : Program} {o : Oper} {σ : AS} {n : Nat} {t yt : TypeId} {x y : Operand} {vs us : List Value} {r : Bool} (ho : o.op = .binOp .eql t x y yt) (hg : P.eqGuardType P.depth t = false) (hn : n ≤ 10000) (ht : eqTy P n t = true)
    (ha : tyAgg P t = some true) (hx : σ.eval x = .agg (vs.map PV.val)) (hy : σ.eval y = .agg (us.map PV.val)) (h1 : Shaped P n t vs) (h2 : Shaped P n t us) (hr : r = true ↔ vs = us) : QStep P o σ (.val (.bool r)) :=
  q_run fun w c a hR => ⟨_, by
    have e1 : a.eval x = .agg vs.toArray := agg_vals (hx ▸ hR.2.eval x)
    have e2 : a.eval y = .agg us.toArray := agg_vals (hy ▸ hR.2.eval y)
    simp only [execOp, ho, e1, e2, Sem.run_bind, run_eqGuard_agg w .eql t x y vs.toArray us.toArray hg, Result.andThen_ok]
    rw [run_eql_struct, equal_aggs hn ht ha h1 h2 hr]; rfl, VR_val_iff.2 ⟨rfl, rfl⟩⟩

theorem q_neAgg {P : Program} {o : Oper} {σ : AS} {n : Nat} {t yt : TypeId} {x y : Operand} {vs us : List Value} {r : Bool} (ho : o.op = .binOp .neq t x y yt) (hg : P.eqGuardType P.depth t = false) (hn : n ≤ 10000) (ht : eqTy P n t = true)
    (ha : tyAgg P t = some true) (hx : σ.eval x = .agg (vs.map PV.val)) (hy : σ.eval y = .agg (us.map PV.val)) (h1 : Shaped P n t vs) (h2 : Shaped P n t us) (hr : r = true ↔ vs = us) : QStep P o σ (.val (.bool (!r))) :=
  q_run fun w c a hR => ⟨_, by
    have e1 : a.eval x = .agg vs.toArray := agg_vals (hx ▸ hR.2.eval x)
    have e2 : a.eval y = .agg us.toArray := agg_vals (hy ▸ hR.2.eval y)
    simp only [execOp, ho, e1, e2, Sem.run_bind, run_eqGuard_agg w .neq t x y vs.toArray us.toArray hg, Result.andThen_ok]
    rw [run_neq_struct, equal_aggs hn ht ha h1 h2 hr]; rfl, VR_val_iff.2 ⟨rfl, rfl⟩⟩

theorem shaped_bools {P : Program} {n : Nat} {t e : TypeId} {k : Nat} {bs : List Bool} (hu : P.underlying t = some (.array k e)) (hc : P.cellsOf t = k) (hce : P.cellsOf e = 1) (he : P.underlying e = some .bool) (hl : bs.length = k) :
    Shaped P (n + 2) t (bs.map Value.bool) := by
  simp only [Shaped, hu, hce, he, hc]
  refine ⟨by simpa using hl, fun i hi => ?_⟩
  have hi' : i < (bs.map Value.bool).length := by simp; omega
  rw [Nat.mul_one, List.drop_eq_getElem_cons hi']
  simp

theorem wrap_inU (n : Int) (h : 0 ≤ n ∧ n ≤ 18446744073709551615) : IntKind.u64.wrap n = n := by
  have e : IntKind.u64.wrap n = if (false && decide (n % 18446744073709551616 ≥ 9223372036854775808)) = true then n % 18446744073709551616 - 18446744073709551616 else n % 18446744073709551616 := rfl
  rw [e, if_neg (by simp)]; omega
theorem addU {a b : Int} (h : 0 ≤ a + b ∧ a + b ≤ 18446744073709551615) : binInt .add .u64 a b = some (.int .u64 (a + b)) := by simp only [binInt, wrap_inU _ h]
theorem subU {a b : Int} (h : 0 ≤ a - b ∧ a - b ≤ 18446744073709551615) : binInt .sub .u64 a b = some (.int .u64 (a - b)) := by simp only [binInt, wrap_inU _ h]
theorem mulU {a b : Int} (h : 0 ≤ a * b ∧ a * b ≤ 18446744073709551615) : binInt .mul .u64 a b = some (.int .u64 (a * b)) := by simp only [binInt, wrap_inU _ h]

end Go.Ab
