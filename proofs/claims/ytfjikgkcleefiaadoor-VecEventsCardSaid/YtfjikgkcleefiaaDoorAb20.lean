/- An abstract calculus over the model's weakest preconditions, part 20: an append onto what has no room; parts of strings and of slices. -/
import Derived.Test.YtfjikgkcleefiaaDoorAb19
set_option linter.unusedSimpArgs false
set_option linter.unusedVariables false
namespace Go.Ab

/-- An append onto a slice without room, as a quiet operation: what comes is not written any more. -/
theorem q_append {P : Program} {o : Oper} {σ : AS} {t t2 e : TypeId} {x y : Operand} {len m sz nb : Nat} {cs news : List PV}
    (ho : o.op = .call { callee := .builtin .append, args := #[x, y], argTypes := #[t, t2] }) (ht : P.underlying t = some (.slice e)) (he : ElemT P e sz nb) (ht2 : srcTy P t2 = true)
    (hx : σ.eval x = .tr len cs .full) (hcs : cs.length = len * sz) (hsrc : SrcOK P σ y m sz news) (hb : (len + m) * nb ≤ 2 ^ 47) : QStep P o σ (.tr (len + m) (cs ++ news) .no) := by
  intro c a w K Q hr hK
  have hv := hr.2.eval x
  rw [hx] at hv
  simp only [VR] at hv
  obtain ⟨hnl, hnlf, hsr⟩ := hsrc
  obtain ⟨hlen, us, hus, husz, husv⟩ := hsr w c a hr
  have done : ∀ (v : Value) (w' : World), (Builtin.append_ #[t, t2] o.type #[a.eval x, a.eval y]).run P w = .ok v w' →
      Good w' c σ.H σ.ts → Ext w c w' c → VR w' c (.tr (len + m) (cs ++ news) .no) v → o.wp P a w K Q := by
    intro v w' hrun hg hxt hvr
    refine wp_value (v := v) (w' := w') (run_builtin ho ?_) (hK v w' hvr hg hxt)
    simp only [List.map_toArray, List.map_cons, List.map_nil, builtin, Sem.run_bind, hrun, Result.andThen_ok]; rfl
  have growing : ∀ (b : Option Addr) (cap : Nat), a.eval x = .slice b len cap → (∃ os : Array Value, (∀ n, (Builtin.firstCells sz len (.slice b len cap)).run P { w with drawn := n } = .ok os { w with drawn := n }) ∧
      os.size = len * sz ∧ VRs w c cs (fun i => os[i]?)) → Leafs cs → ¬ len + m ≤ cap → o.wp P a w K Q := by
    intro b cap hxe ⟨os, hos, hosz, hosv⟩ hlf hroom
    obtain ⟨rest, ncap, hn1, hn2, hrun⟩ := run_append_grow (P := P) (t := t) (t2 := t2) ht he ht2 hlen hos hus hroom hb o.type
    rw [← hxe] at hrun
    have hq := quiet_drew hr.1 (w.drawn + 1)
    obtain ⟨g2, x2⟩ := quiet_new hq.1 (.cells (os ++ us ++ rest) e (0, 0))
    refine done _ _ hrun g2 (hq.2.trans x2) ?_
    simp only [VR]
    refine .inr ⟨_, ncap, rfl, hn1, Foot.new hr.1 (by simp [grow]) _ _ _ rfl, trivial, fun q hq => (List.mem_append.1 hq).elim (hlf q) (hnlf q), VRs_mk fun i p hp => ?_⟩
    show ∃ v, (grow _ _).cell? ⟨w.heap.size, 0 + i, none⟩ = some v ∧ _
    have hnew : (grow { w with drawn := w.drawn + 1 } (.cells (os ++ us ++ rest) e (0, 0))).heap[w.heap.size]? = some (.cells (os ++ us ++ rest) e (0, 0)) := grow_new _ _
    rw [cell_row hnew, Nat.zero_add]
    by_cases hi : i < len * sz
    · rw [List.getElem?_append_left (by omega)] at hp
      obtain ⟨v, h1, h2⟩ := VRs_get hosv hp
      refine ⟨v, ?_, h2.ext (hq.2.trans x2)⟩
      rw [Array.append_assoc, Array.getElem?_append_left (by omega)]; exact h1
    · have hi2 := (List.getElem?_eq_some_iff.1 hp).1
      simp [hcs, hnl] at hi2
      rw [List.getElem?_append_right (by omega), hcs] at hp
      obtain ⟨v, h1, h2⟩ := VRs_get husv hp
      refine ⟨v, ?_, h2.ext (hq.2.trans x2)⟩
      rw [Array.append_assoc, Array.getElem?_append_right (by omega), Array.getElem?_append_left (by omega), hosz]; exact h1
  rcases hv with ⟨hxe, hl0, hc0, hnt⟩ | ⟨ad, cap, hxe, hcap, hft, htail, hlf, hcells⟩
  · subst hl0; subst hc0
    by_cases hm : m = 0
    · subst hm
      have hn0 : news = [] := List.eq_nil_of_length_eq_zero (by rw [hnl]; simp)
      subst hn0
      have hrun := run_append_keep (P := P) (w := w) (t := t) (t2 := t2) (b := none) (len := 0) (cap := 0) ht he.size ht2 hlen (hus w.drawn) (by rw [husz]; simp) (Nat.le_refl _) o.type
      rw [← hxe] at hrun
      refine done _ w hrun hr.1 (Ext.refl _ _) ?_
      rw [hxe]; simp only [VR]; exact .inl ⟨trivial, trivial, by simp, rfl⟩
    · exact growing none 0 hxe ⟨#[], fun n => rfl, by simp, by simp only [VRs]⟩ (fun q hq => by cases hq) (by omega)
  · have hread : ∃ os : Array Value, (∀ n, (Builtin.firstCells sz len (.slice (some ad) len cap)).run P { w with drawn := n } = .ok os { w with drawn := n }) ∧
        os.size = len * sz ∧ VRs w c cs (fun i => os[i]?) := by
      obtain ⟨os, h1, h2, h3⟩ := read_fz (P := P) cs hft hcells
      refine ⟨os, fun n => ?_, by rw [h2, hcs], h3⟩
      show (loadCells ad (len * sz)).run P _ = _
      rw [← hcs]; exact h1 n
    have hce : cap = len := htail
    by_cases hm : m = 0
    · subst hm
      have hn0 : news = [] := List.eq_nil_of_length_eq_zero (by rw [hnl]; simp)
      subst hn0
      have hrun := run_append_keep (P := P) (w := w) (t := t) (t2 := t2) (b := some ad) (len := len) (cap := cap) ht he.size ht2 hlen (hus w.drawn) (by rw [husz]; simp) hcap o.type
      rw [← hxe] at hrun
      refine done _ w hrun hr.1 (Ext.refl _ _) ?_
      rw [hxe]; simp only [VR]
      exact .inr ⟨ad, cap, rfl, hcap, by simpa using hft, trivial, by simpa using hlf, by simpa using hcells⟩
    · exact growing (some ad) cap hxe hread hlf (by omega)

/-! ### parts of strings and of slices -/
/-- a bound that is given, or the one that stands for it -/
def BoundIs (σ : AS) (x : Option Operand) (d n : Nat) : Prop :=
  match x with
  | some y => ∃ k i, σ.eval y = .val (.int k i) ∧ 0 ≤ i ∧ i.toNat = n
  | none => n = d

theorem run_bound {P : Program} {w : World} {k : IntKind} {i : Int} {y : Nat} {code : BoundsCode} (h0 : 0 ≤ i) (h1 : i.toNat ≤ y) : (Instr.sliceBound (.int k i) y code).run P w = .ok i.toNat w := by
  unfold Instr.sliceBound
  simp only [Sem.run_bind, run_asIntOf, Result.andThen_ok]
  rw [if_pos ⟨h0, by omega⟩]; rfl

theorem run_bounds {P : Program} {w : World} {c : Cx} {σ : AS} {a : Act} (hr : RelC w c σ a) {lo hi : Option Operand} {b : Bool} {len cap l h : Nat} (hl : BoundIs σ lo 0 l) (hh : BoundIs σ hi len h) (h1 : l ≤ h) (h2 : h ≤ cap) :
    (Instr.sliceBounds b len cap (lo.map a.eval) (hi.map a.eval) none).run P w = .ok (l, h, cap) w := by
  unfold Instr.sliceBounds
  cases hi with
  | none =>
    simp only [BoundIs] at hh; subst hh
    cases lo with
    | none =>
      simp only [BoundIs] at hl; subst hl
      simp
    | some y =>
      obtain ⟨k, i, e, h0, rfl⟩ := hl
      have ev := eval_val hr.2 e
      simp [ev, run_bound h0 h1]
  | some z =>
    obtain ⟨k', i', e', h0', rfl⟩ := hh
    have ev' := eval_val hr.2 e'
    cases lo with
    | none =>
      simp only [BoundIs] at hl; subst hl
      simp [ev', run_bound h0' h2]
    | some y =>
      obtain ⟨k, i, e, h0, rfl⟩ := hl
      have ev := eval_val hr.2 e
      simp [ev, ev', run_bound h0' h2, run_bound h0 h1]

theorem q_sliceStr {P : Program} {o : Oper} {σ : AS} {t : TypeId} {x : Operand} {lo hi : Option Operand} {s : ByteArray} {l h : Nat} (ho : o.op = .slice t x lo hi none) (ht : P.underlying t = some .string)
    (hx : σ.eval x = .val (.string s)) (hl : BoundIs σ lo 0 l) (hh : BoundIs σ hi s.size h) (h1 : l ≤ h) (h2 : h ≤ s.size) : QStep P o σ (.val (.string (s.extract l h))) :=
  q_run fun w c a hr => by
    have e := eval_val hr.2 hx
    refine ⟨_, ?_, VR_val rfl⟩
    simp only [execOp, ho, e, Instr.sliceAt, Instr.slice, Sem.run_bind, run_underlying ht, Result.andThen_ok, Option.map_none, Option.isSome_none, Bool.false_eq_true, if_false, run_bounds hr hl hh h1 h2, Sem.run_pure]

theorem cap_of {w : World} {c : Cx} {len cap : Nat} {cs : List PV} {tl : Tail} {b : Option Addr} (h : VR w c (.tr len cs tl) (.slice b len cap)) : len ≤ cap := by
  simp only [VR] at h
  rcases h with ⟨h1, h2, _⟩ | ⟨ad, cap', h1, h2, _⟩
  · cases h1; omega
  · cases h1; exact h2

theorem q_sliceTr {P : Program} {o : Oper} {σ : AS} {t e : TypeId} {x : Operand} {lo hi : Option Operand} {len sz l h : Nat} {cs : List PV} {tl : Tail} (ho : o.op = .slice t x lo hi none) (ht : P.underlying t = some (.slice e)) (hs : tySz P e = some sz)
    (hx : σ.eval x = .tr len cs tl) (hcs : cs.length = len * sz) (hl : BoundIs σ lo 0 l) (hh : BoundIs σ hi len h) (h1 : l ≤ h) (h2 : h ≤ len) : QStep P o σ (.tr (h - l) ((cs.drop (l * sz)).take ((h - l) * sz)) .no) :=
  q_run fun w c a hr => by
    have hv := hr.2.eval x
    rw [hx] at hv
    have hv' := hv
    simp only [VR] at hv
    rcases hv with ⟨hxe, hl0, hc0, hnt⟩ | ⟨ad, cap, hxe, hcap, hft, htail, hlf, hcells⟩
    · subst hl0; subst hc0
      have e1 : h = 0 := by omega
      have e2 : l = 0 := by omega
      subst e1; subst e2
      refine ⟨.slice none 0 0, ?_, ?_⟩
      · simp only [execOp, ho, hxe, Instr.sliceAt, Instr.slice, Sem.run_bind, run_underlying ht, Result.andThen_ok, Option.map_none, run_bounds hr hl hh (Nat.le_refl 0) (Nat.le_refl 0), run_sizeOf hs]
        rfl
      · simp only [VR]; exact .inl ⟨by simp, by simp, by simp, rfl⟩
    · refine ⟨.slice (if cap = l then some ad else (some ad).map (·.add (l * sz))) (h - l) (cap - l), ?_, ?_⟩
      · simp only [execOp, ho, hxe, Instr.sliceAt, Instr.slice, Sem.run_bind, run_underlying ht, Result.andThen_ok, Option.map_none, run_bounds hr hl hh h1 (show h ≤ cap by omega), run_sizeOf hs]
        rfl
      · by_cases hcl : cap = l
        · have e1 : h = l := by omega
          simp only [VR]
          rw [if_pos hcl]
          refine .inr ⟨ad, cap - l, rfl, by omega, .inl (by simp [e1]), trivial, ?_, ?_⟩
          · intro q hq; simp [e1] at hq
          · rw [e1, Nat.sub_self, Nat.zero_mul, List.take_zero]; simp only [VRs]
        · rw [if_neg hcl]
          have hmul : l * sz + (h - l) * sz ≤ len * sz := by rw [← Nat.add_mul]; exact Nat.mul_le_mul_right _ (by omega)
          have hfz := VR_fz_drop hr.1 hft hlf hcells (l * sz)
          simp only [VR] at hfz
          obtain ⟨a', e1, f1, f2, f3⟩ := hfz
          simp only [Value.pointer.injEq, Option.some.injEq] at e1
          subst e1
          simp only [VR, Option.map_some]
          refine .inr ⟨ad.add (l * sz), cap - l, rfl, by omega, ?_, trivial, fun q hq => f2 q (List.mem_of_mem_take hq), VRs_take f3 _⟩
          have := hft.le hr.1 (m := (h - l) * sz) (l * sz) (by omega)
          have hlen : ((cs.drop (l * sz)).take ((h - l) * sz)).length = (h - l) * sz := by simp; omega
          rw [hlen]; exact this

end Go.Ab
