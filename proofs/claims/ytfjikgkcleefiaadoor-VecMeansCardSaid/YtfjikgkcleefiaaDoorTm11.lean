/- The typed machine, part 11: functions of data keep what they say. -/
import Derived.Test.YtfjikgkcleefiaaDoorTm10
set_option linter.unusedSimpArgs false
set_option linter.unusedVariables false
namespace Go.Tm
open Go.Ab

theorem res1_spec {R : Type} {P : Program} {σ : TS} (hw : σ.wf) {v : ResultVar} {k : TV → Option R} {r : R} (h : res1K P σ v k = some r) : ∃ q, k q = some r ∧ q.wf ∧ ResV P σ.flat v q.pv := by
  cases v with
  | tmp t => exact ⟨_, h, get_wf hw t, flat_get σ t⟩
  | cell a t =>
    simp only [res1K] at h
    obtain ⟨q, h1, h2, h3⟩ := load_spec hw (get_wf hw a) h
    have h3 := h3 []
    rw [List.append_nil] at h3
    exact ⟨q, h1, h2, _, flat_get σ a, h3⟩

theorem ress_spec {R : Type} {P : Program} {σ : TS} (hw : σ.wf) : ∀ {vs : List ResultVar} {k : List TV → Option R} {r : R}, ressK P σ vs k = some r →
    ∃ qs, k qs = some r ∧ vs.length = qs.length ∧ (∀ q, q ∈ qs → q.wf) ∧ ∀ (i : Nat) v q, vs[i]? = some v → qs[i]? = some q → ResV P σ.flat v q.pv
  | [], k, r, h => ⟨[], by simpa only [ressK] using h, rfl, fun q hq => (by cases hq), fun i v q hv => by simp at hv⟩
  | v :: vs, k, r, h => by
    simp only [ressK] at h
    obtain ⟨q, h1, h2, h3⟩ := res1_spec hw h
    obtain ⟨qs, g1, g2, g3, g4⟩ := ress_spec hw h1
    refine ⟨q :: qs, g1, by simp [g2], fun x hx => ?_, fun i v' q' hv hq => ?_⟩
    · rcases List.mem_cons.1 hx with rfl | hx
      · exact h2
      · exact g3 x hx
    · cases i with
      | zero => simp at hv hq; subst hv; subst hq; exact h3
      | succ i => exact g4 i v' q' (by simpa using hv) (by simpa using hq)

theorem res_spec {R : Type} {P : Program} {fn : Func} {σ : TS} (hw : σ.wf) {k : TV → Option R} {r : R} (h : resK P fn σ k = some r) : ∃ q, k q = some r ∧ q.wf ∧ ResP P fn σ.flat q.pv := by
  unfold resK at h
  obtain ⟨qs, h1, h2, h3, h4⟩ := ress_spec hw h
  split at h1
  · rename_i q
    obtain ⟨v, hv⟩ := List.length_eq_one_iff.1 h2
    exact ⟨q, h1, h3 q (by simp), res_one (r := v) (arr_of_list' hv) (h4 0 v q (by rw [hv]; rfl) rfl)⟩
  · rename_i hne
    refine ⟨_, h1, by simp only [TV.wf]; exact wfs_iff.2 h3, ?_⟩
    simp only [TV.pv]
    refine res_many (by rw [pvs_map]; simpa using h2) (fun e => ?_) (fun i v p hv hp => ?_)
    · rw [pvs_map, List.length_map] at e
      obtain ⟨q, rfl⟩ := List.length_eq_one_iff.1 e
      exact hne q rfl
    · rw [pvs_map, List.getElem?_map] at hp
      cases hq : qs[i]? with
      | none => rw [hq] at hp; cases hp
      | some q => rw [hq] at hp; simp at hp; subst hp; exact h4 i v q hv hq

theorem argSlots_flat : ∀ (ts : List TV) (i : Nat), (argSlotsT ts i).map (fun x => (x.1, x.2.pv)) = argSlots (ts.map TV.pv) i
  | [], _ => rfl
  | t :: ts, i => by simp only [argSlotsT, List.map_cons, argSlots, argSlots_flat ts (i + 1)]

theorem argSlots_mem : ∀ {ts : List TV} {i : Nat} {x : Nat × TV}, x ∈ argSlotsT ts i → x.2 ∈ ts
  | [], _, _, h => by cases h
  | t :: ts, i, x, h => by
    simp only [argSlotsT, List.mem_cons] at h
    rcases h with rfl | h
    · simp
    · simp [argSlots_mem h]

/-- A function's contract, out of its code. -/
theorem calls_of_taw {P : Program} {f : FuncId} {fn : Func} {x : Code} {args : List TV} {t : PV} (hf : P.funcs[f]? = some fn) (hb : fn.body = some x) (hwa : ∀ a, a ∈ args → a.wf) {n : Nat} (hn : args.length + (fn.ntmps - args.length) = n)
    (h : TAW P 0 x ⟨n, argSlotsT args 0, []⟩ (fun e σ => (e = .normal ∨ e = .ret) ∧ ∃ q, PLe q t ∧ ResP P fn σ.flat q)) : ACalls P f (args.map TV.pv) [] 0 (fun p _ _ => PLe p t) := by
  intro w c vs g hsz hv
  have hm : c.m = [] := List.eq_nil_of_length_eq_zero (by rw [g.len]; rfl)
  have hT : c.T = [] := List.eq_nil_of_length_eq_zero (by rw [g.tl]; rfl)
  simp only [List.length_map] at hsz
  refine calls_of_wp hf hb (h c _ w _ ⟨g, ?_⟩ ⟨fun y hy => hwa _ (argSlots_mem hy), fun o ho => by cases ho⟩ ?_)
  · refine ⟨by simp [hsz, TS.flat]; omega, fun t p hl hlt => ?_⟩
    simp only [TS.flat, argSlots_flat] at hl
    obtain ⟨_, h2⟩ := look_argSlots _ 0 t p hl
    simp only [Nat.sub_zero] at h2
    obtain ⟨v, h3, h4⟩ := VRs_get hv h2
    have hlt' : t < vs.size := by rw [hsz]; have := (List.getElem?_eq_some_iff.1 h2).1; simpa using this
    exact ⟨v, by rw [Array.getElem?_append_left hlt']; exact h3, h4⟩
  · intro e c' a' w' σ' hQ hw' hr' hx hd
    obtain ⟨he, q, hq1, hq2⟩ := hQ
    obtain ⟨v, h1, h2⟩ := hq2 w' c' a' hr'.1 hr'.2
    have hT' := relT hr'
    have hx' : Ext w c w' c' :=
      { os := hx.os, tape := hx.tape, output := hx.output, size := hx.size
        ids := fun b k h => by rw [hm] at h; simp at h
        new := hx.new
        blocks := fun k hk hkm _ => hx.blocks k hk hkm
        cells := fun k hk hkm off v _ hv => by rw [cell_of_block (hx.blocks k hk hkm)]; exact hv
        toks := fun i k j h => by rw [hT'] at h; simp at h
        stay := fun i k j _ h => by rw [hT'] at h; simp at h
        tlen := by rw [hT, hT']; exact Nat.le_refl _
        ok := hx.ok }
    rcases he with rfl | rfl
    · exact ⟨hd, v, h1, v, q, σ'.flat.H, [], c', rfl, hq1, hr'.1, h2, hx'⟩
    · exact ⟨hd, v, h1, v, q, σ'.flat.H, [], c', rfl, hq1, hr'.1, h2, hx'⟩

theorem PLe_tup {ps qs : List PV} (h : CLe ps qs) : PLe (.tup ps) (.tup qs) := by
  intro w c v hg hv
  simp only [VR] at hv ⊢
  obtain ⟨cv, h1, h2, h3⟩ := hv
  exact ⟨cv, h1, by rw [← h.1]; exact h2, VRs_le hg h h3⟩

theorem rs_spec {R : Type} {rs : RS} {t : TV} {k : rs.T → Option R} {r : R} (hw : t.wf) (h : rs.close t k = some r) : ∃ y, k y = some r ∧ PLe t.pv (rs.tv y).pv ∧ (rs.tv y).wf ∧ Ab.Pure (rs.tv y).pv := by
  cases rs with
  | one u =>
    simp only [RS.close] at h
    obtain ⟨x, h1, h2, h3, _⟩ := seal_spec t u hw h
    exact ⟨x, h1, by simp only [RS.tv, TV.pv]; exact h3, by simp only [RS.tv, TV.wf]; exact h2, by simp only [RS.tv, TV.pv]; exact pure_pvU u x h2⟩
  | tup l =>
    cases t <;> simp only [RS.close] at h <;> first | (cases h; done) | skip
    rename_i ts
    simp only [TV.wf] at hw
    obtain ⟨x, h1, h2, h3, h4⟩ := sealT_spec l ts (wfs_iff.1 hw) h
    have hle : CLe (TV.pvs ts) (TV.pvs (splitT l x)) := by
      rw [pvs_map, pvs_map]
      refine ⟨by simp [h3], fun i p q hp hq => ?_⟩
      rw [List.getElem?_map] at hp hq
      cases ha : ts[i]? with
      | none => rw [ha] at hp; cases hp
      | some a =>
        cases hb : (splitT l x)[i]? with
        | none => rw [hb] at hq; cases hq
        | some b =>
          rw [ha] at hp; rw [hb] at hq
          simp at hp hq
          subst hp; subst hq
          exact (h4 i a b ha hb).pv
    have hall : ∀ s, s ∈ splitT l x → s.wf ∧ Ab.Pure s.pv := fun s hs => by
      obtain ⟨i, hi⟩ := List.mem_iff_getElem?.1 hs
      have hlt : i < ts.length := by rw [← h3]; exact (List.getElem?_eq_some_iff.1 hi).1
      have := h4 i _ s (List.getElem?_eq_getElem hlt) hi
      exact ⟨this.wf, this.pure⟩
    refine ⟨x, h1, ?_, ?_, ?_⟩
    · simp only [RS.tv, TV.pv]; exact PLe_tup hle
    · simp only [RS.tv, TV.wf]; exact wfs_iff.2 fun s hs => (hall s hs).1
    · simp only [RS.tv, TV.pv, Ab.Pure]
      rw [pvs_map]
      refine Pures_iff.2 fun p hp => ?_
      simp only [List.mem_map] at hp
      obtain ⟨s, hs, rfl⟩ := hp
      exact (hall s hs).2

theorem splitT_wf {l : List U} {x : LT l} {ts : List TV} (h3 : (splitT l x).length = ts.length) (h4 : ∀ (i : Nat) t s, ts[i]? = some t → (splitT l x)[i]? = some s → Sld t s) :
    (∀ s, s ∈ splitT l x → s.wf ∧ Ab.Pure s.pv) ∧ CLe (ts.map TV.pv) ((splitT l x).map TV.pv) := by
  refine ⟨fun s hs => ?_, by simp [h3], fun i p q hp hq => ?_⟩
  · obtain ⟨i, hi⟩ := List.mem_iff_getElem?.1 hs
    have hlt : i < ts.length := by rw [← h3]; exact (List.getElem?_eq_some_iff.1 hi).1
    have := h4 i _ s (List.getElem?_eq_getElem hlt) hi
    exact ⟨this.wf, this.pure⟩
  · rw [List.getElem?_map] at hp hq
    cases ha : ts[i]? with
    | none => rw [ha] at hp; cases hp
    | some a =>
      cases hb : (splitT l x)[i]? with
      | none => rw [hb] at hq; cases hq
      | some b =>
        rw [ha] at hp; rw [hb] at hq
        simp at hp hq
        subst hp; subst hq
        exact (h4 i a b ha hb).pv

/-- the hints of a function's body are right -/
def FHOK (P : Program) (fn : Func) (h : HT) : Prop := HOK P 0 (bodyC fn) h

theorem fn_ok {P : Program} {E : List Ent} (hE : EnvOK P E) {f : FuncId} {func : Func} {h : HT} {l : List U} {rs : RS} {fn : LT l → Option rs.T} (hfun : P.funcs[f]? = some func) (hh : FHOK P func h) (hc : callable P f = true)
    (hfn : ∀ x, fnK P E func h l rs x = fn x) : EntOK P (entD f l rs fn) := by
  intro R args k r hw hr
  simp only [entD] at hr ⊢
  obtain ⟨x, h1, h2, h3, h4⟩ := sealT_spec l args hw hr
  rw [Option.bind_eq_some_iff] at h1
  obtain ⟨y, hy, hk⟩ := h1
  obtain ⟨g1, g2⟩ := splitT_wf h3 h4
  rw [← hfn x] at hy
  unfold fnK at hy
  · split at hy
    · rename_i c hbody
      have hok : HOK P 0 c h := by have := hh; unfold FHOK bodyC at this; rw [hbody] at this; exact this
      have ht := eval_spec hE c h (p := 0) hok hy
      -- what a return hands over
      have post : ∀ e σ', σ'.wf → (match e, σ' with | Exit.normal, σ' | Exit.ret, σ' => resK P func σ' fun t => rs.close t some | _, _ => none) = some y →
          (e = .normal ∨ e = .ret) ∧ (∃ q, PLe q (rs.tv y).pv ∧ ResP P func σ'.flat q) ∧ (rs.tv y).wf ∧ Ab.Pure (rs.tv y).pv := by
        intro e σ' hwσ he
        have : (e = .normal ∨ e = .ret) ∧ (resK P func σ' fun t => rs.close t some) = some y := by
          cases e <;> first | (cases he; done) | exact ⟨.inl rfl, he⟩ | exact ⟨.inr rfl, he⟩
        obtain ⟨h5, h6⟩ := this
        obtain ⟨q, q1, q2, q3⟩ := res_spec hwσ h6
        obtain ⟨y', p1, p2, p3, p4⟩ := rs_spec q2 q1
        cases p1
        exact ⟨h5, ⟨_, p2, q3⟩, p3, p4⟩
      obtain ⟨e0, σ0, hw0, he0⟩ := eval_wf' hE c h (p := 0) hok ⟨fun z hz => (g1 _ (argSlots_mem hz)).1, fun o ho => by cases ho⟩ hy
      obtain ⟨_, _, hgw, hgp⟩ := post e0 σ0 hw0 (by revert he0; cases e0 <;> exact id)
      refine ⟨rs.tv y, (splitT l x).map TV.pv, hk, ⟨hgw, hgp, Pures_iff.2 fun p hp => ?_, g2, hc, ?_⟩⟩
      · simp only [List.mem_map] at hp
        obtain ⟨s, hs, rfl⟩ := hp
        exact (g1 s hs).2
      · refine calls_of_taw hfun hbody (fun a ha => (g1 a ha).1) (by rw [h3, h2]) ?_
        intro c0 a w Q' hrel hws hK
        refine ht c0 a w Q' hrel hws fun e c' a' w' σ' he hw' hr' hx hd => ?_
        obtain ⟨p1, p2, _⟩ := post e σ' hw' (by revert he; cases e <;> exact id)
        exact hK e c' a' w' σ' ⟨p1, p2⟩ hw' hr' hx hd
    · cases hy

end Go.Tm
