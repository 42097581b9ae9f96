/- The typed machine, part 10: states as typed data; functions. -/
import Derived.Test.YtfjikgkcleefiaaDoorTm9
set_option linter.unusedSimpArgs false
set_option linter.unusedVariables false
namespace Go.Tm
open Go.Ab

@[reducible] def LT : List U → Type
  | [] => Unit
  | [u] => u.T
  | u :: v :: r => u.T × LT (v :: r)

def sealT {R : Type} : (l : List U) → List TV → (LT l → Option R) → Option R
  | [], [], k => k ()
  | [u], [t], k => sealK t u k
  | u :: v :: r, t :: ts, k => sealK t u fun x => sealT (v :: r) ts fun y => k (x, y)
  | _, _, _ => none

def splitT : (l : List U) → LT l → List TV
  | [], _ => []
  | [u], x => [.v u x]
  | u :: v :: r, x => .v u x.1 :: splitT (v :: r) x.2

mutual
theorem pure_cellU : ∀ (u : U) (x : u.T), wfU u x → Pures (cellU u x)
  | .int _, _, _ => by simp only [cellU, Pures, Ab.Pure]; exact ⟨trivial, trivial⟩
  | .bool, _, _ => by simp only [cellU, Pures, Ab.Pure]; exact ⟨trivial, trivial⟩
  | .str, _, _ => by simp only [cellU, Pures, Ab.Pure]; exact ⟨trivial, trivial⟩
  | .leaf, _, h => by simp [wfU] at h
  | .sl u, l, h => by
    simp only [wfU] at h
    simp only [cellU, Pures, Ab.Pure]
    refine ⟨⟨rfl, Pures_iff.2 fun p hp => ?_⟩, trivial⟩
    simp only [List.mem_flatMap] at hp
    obtain ⟨y, hy, hp⟩ := hp
    exact Pures_iff.1 (pure_cellU u y (h y hy)) p hp
  | .arr n u, l, h => by
    simp only [wfU] at h
    simp only [cellU]
    refine Pures_iff.2 fun p hp => ?_
    simp only [List.mem_flatMap] at hp
    obtain ⟨y, hy, hp⟩ := hp
    exact Pures_iff.1 (pure_cellU u y (h.2 y hy)) p hp
  | .st us, x, h => by
    simp only [wfU] at h
    simp only [cellU]
    exact pure_cellUs us x h
theorem pure_cellUs : ∀ (us : Us) (x : us.T), wfUs us x → Pures (cellUs us x)
  | .one u, x, h => by
    simp only [wfUs] at h
    simp only [cellUs]
    exact pure_cellU u x h
  | .cons u us, x, h => by
    simp only [wfUs] at h
    simp only [cellUs]
    refine Pures_iff.2 fun p hp => ?_
    rcases List.mem_append.1 hp with hp | hp
    · exact Pures_iff.1 (pure_cellU u x.1 h.1) p hp
    · exact Pures_iff.1 (pure_cellUs us x.2 h.2) p hp
end

theorem pure_pvU (u : U) (x : u.T) (h : wfU u x) : Ab.Pure (pvU u x) := by
  have := pure_cellU u x h
  cases hg : u.isAgg with
  | true => rw [pvU_agg x hg]; simp only [Ab.Pure]; exact this
  | false => rw [pvU_cell x hg] at this; simp only [Pures] at this; exact this.1

/-- one is looked upon as another one, which is data -/
structure Sld (t s : TV) : Prop where
  wf : s.wf
  pv : PLe t.pv s.pv
  cells : CLe t.cells s.cells
  pure : Ab.Pure s.pv
  data : ∃ u y, s = .v u y

theorem sealT_spec {R : Type} : ∀ (l : List U) (ts : List TV) {k : LT l → Option R} {r : R}, (∀ t, t ∈ ts → t.wf) → sealT l ts k = some r →
    ∃ x, k x = some r ∧ ts.length = l.length ∧ (splitT l x).length = ts.length ∧ ∀ (i : Nat) t s, ts[i]? = some t → (splitT l x)[i]? = some s → Sld t s
  | [], [], k, r, _, h => ⟨(), by simpa only [sealT] using h, rfl, rfl, fun i t s h => by simp at h⟩
  | [u], [t], k, r, hw, h => by
    simp only [sealT] at h
    obtain ⟨x, h1, h2, h3, h4⟩ := seal_spec t u (hw t (by simp)) h
    refine ⟨x, h1, rfl, rfl, fun i t' s ht hs => ?_⟩
    cases i with
    | zero =>
      simp only [List.getElem?_cons_zero, Option.some.injEq] at ht
      simp only [splitT, List.getElem?_cons_zero, Option.some.injEq] at hs
      subst ht; subst hs
      exact ⟨by simpa only [TV.wf] using h2, by simpa only [TV.pv] using h3, by rw [cells_v u x h2]; exact h4, by simp only [TV.pv]; exact pure_pvU u x h2, u, x, rfl⟩
    | succ i => simp at ht
  | u :: v :: l, t :: ts, k, r, hw, h => by
    simp only [sealT] at h
    obtain ⟨x, h1, h2, h3, h4⟩ := seal_spec t u (hw t (by simp)) h
    obtain ⟨y, g1, g2, g3, g4⟩ := sealT_spec (v :: l) ts (fun s hs => hw s (by simp [hs])) h1
    refine ⟨(x, y), g1, by simp [g2], by simp only [splitT, List.length_cons, g3], fun i t' s ht hs => ?_⟩
    cases i with
    | zero =>
      simp only [List.getElem?_cons_zero, Option.some.injEq] at ht
      simp only [splitT, List.getElem?_cons_zero, Option.some.injEq] at hs
      subst ht; subst hs
      exact ⟨by simpa only [TV.wf] using h2, by simpa only [TV.pv] using h3, by rw [cells_v u x h2]; exact h4, by simp only [TV.pv]; exact pure_pvU u x h2, u, x, rfl⟩
    | succ i => exact g4 i t' s (by simpa using ht) (by simpa [splitT] using hs)
  | [], _ :: _, _, _, _, h => by simp [sealT] at h
  | [_], [], _, _, _, h => by simp [sealT] at h
  | [_], _ :: _ :: _, _, _, _, h => by simp [sealT] at h
  | _ :: _ :: _, [], _, _, _, h => by simp [sealT] at h

/-- an object of a state that is named: a variable of data, or one that isn't wanted any more -/
inductive HSk where
  | var (e : TypeId) (u : U)
  | gone

structure Shp where
  n : Nat
  ds : List (Nat × U)
  cs : List (Nat × TV)
  hk : List HSk

def hkCodes : List HSk → List U
  | [] => []
  | .var _ u :: r => u :: hkCodes r
  | .gone :: r => hkCodes r

def Shp.codes (S : Shp) : List U := S.ds.map (·.2) ++ hkCodes S.hk

def heapVals : List HSk → List TOb → Option (List TV)
  | [], _ => some []
  | .gone :: r, _ :: H => heapVals r H
  | .var e _ :: r, .ob e' (.var t) :: H => bif Nat.beq e' e then (match heapVals r H with | some l => some (t :: l) | none => none) else none
  | _, _ => none

def stpsBeq : List Stp → List Stp → Bool
  | [], [] => true
  | .fld i :: p, .fld j :: q => Nat.beq i j && stpsBeq p q
  | .idx i :: p, .idx j :: q => Nat.beq i j && stpsBeq p q
  | _, _ => false

theorem stpsBeq_eq : ∀ {p q : List Stp}, stpsBeq p q = true → p = q
  | [], [], _ => rfl
  | .fld i :: p, .fld j :: q, h => by
    simp only [stpsBeq, Bool.and_eq_true] at h
    rw [Nat.eq_of_beq_eq_true h.1, stpsBeq_eq h.2]
  | .idx i :: p, .idx j :: q, h => by
    simp only [stpsBeq, Bool.and_eq_true] at h
    rw [Nat.eq_of_beq_eq_true h.1, stpsBeq_eq h.2]
  | [], _ :: _, h => by simp [stpsBeq] at h
  | .fld _ :: _, [], h => by simp [stpsBeq] at h
  | .idx _ :: _, [], h => by simp [stpsBeq] at h
  | .fld _ :: _, .idx _ :: _, h => by simp [stpsBeq] at h
  | .idx _ :: _, .fld _ :: _, h => by simp [stpsBeq] at h

/-- things that stay as they are: looked upon alone -/
def tvBeq : TV → TV → Bool
  | .ptr b r p, .ptr b' r' p' => Nat.beq b b' && r.beq r' && stpsBeq p p'
  | .nil, .nil => true
  | .nilp, .nilp => true
  | .nilf, .nilf => true
  | .nili, .nili => true
  | .nilm, .nilm => true
  | .fn f [], .fn g [] => Nat.beq f g
  | _, _ => false

theorem tvBeq_eq {a b : TV} (h : tvBeq a b = true) : a = b := by
  unfold tvBeq at h
  split at h
  · simp only [Bool.and_eq_true] at h
    rw [Nat.eq_of_beq_eq_true h.1.1, Rt.beq_eq h.1.2, stpsBeq_eq h.2]
  · rfl
  · rfl
  · rfl
  · rfl
  · rfl
  · rw [Nat.eq_of_beq_eq_true h]
  · cases h

def HSk.here : HSk → Bool
  | .var _ _ => true
  | .gone => false

/-- it points to what is kept -/
def okRef (hk : List HSk) : TV → Bool
  | .ptr b _ _ => match hk[b]? with
    | some o => o.here
    | none => false
  | _ => true

def csOk (hk : List HSk) (σ : TS) : List (Nat × TV) → Bool
  | [] => true
  | (t, v) :: r => tvBeq (σ.get t) v && okRef hk v && csOk hk σ r

def zipD : List (Nat × U) → List TV → List (Nat × TV)
  | (t, _) :: r, v :: vs => (t, v) :: zipD r vs
  | _, _ => []

def fillH : List HSk → List TV → List TOb
  | [], _ => []
  | .gone :: r, vs => .gone :: fillH r vs
  | .var e _ :: r, v :: vs => .ob e (.var v) :: fillH r vs
  | .var _ _ :: r, [] => .gone :: fillH r []

def Shp.st (S : Shp) (x : LT S.codes) : TS :=
  { n := S.n, slots := zipD S.ds (splitT S.codes x) ++ S.cs, H := fillH S.hk ((splitT S.codes x).drop S.ds.length) }

def Shp.close {R : Type} (S : Shp) (σ : TS) (k : LT S.codes → Option R) : Option R :=
  match heapVals S.hk σ.H with
  | some l => bif Nat.beq σ.n S.n && csOk S.hk σ S.cs then sealT S.codes (S.ds.map (fun d => σ.get d.1) ++ l) k else none
  | none => none

def Shp.xe (S : Shp) : XE := ⟨LT S.codes, fun σ k => S.close σ k, S.st⟩

def pinsB (p : Nat) (hk : List HSk) : Bool := (List.range p).all fun b => match hk[b]? with
  | some o => o.here
  | none => false

theorem lookT_zipD : ∀ {ds : List (Nat × U)} {vs : List TV} {cs : List (Nat × TV)} {t : Nat} {v : TV}, lookT (zipD ds vs ++ cs) t = some v →
    (∃ (i : Nat) (d : Nat × U), ds[i]? = some d ∧ d.1 = t ∧ vs[i]? = some v) ∨ lookT cs t = some v
  | [], _, _, _, _, h => .inr (by simpa [zipD] using h)
  | _ :: _, [], _, _, _, h => .inr (by simpa [zipD] using h)
  | (s, u) :: ds, w :: vs, cs, t, v, h => by
    simp only [zipD, List.cons_append, lookT] at h
    cases hb : Nat.beq s t with
    | true =>
      rw [hb] at h
      have := Nat.eq_of_beq_eq_true hb
      exact .inl ⟨0, (s, u), rfl, this, by simpa using h⟩
    | false =>
      rw [hb] at h
      rcases lookT_zipD (by simpa using h) with ⟨i, d, h1, h2, h3⟩ | h1
      · exact .inl ⟨i + 1, d, by simpa using h1, h2, by simpa using h3⟩
      · exact .inr h1

theorem csOk_spec {hk : List HSk} {σ : TS} : ∀ {cs : List (Nat × TV)}, csOk hk σ cs = true → ∀ t v, lookT cs t = some v → σ.get t = v ∧ okRef hk v = true
  | [], _, t, v, h => by simp [lookT] at h
  | (s, u) :: r, hc, t, v, h => by
    simp only [csOk, Bool.and_eq_true] at hc
    simp only [lookT] at h
    cases hb : Nat.beq s t with
    | true =>
      rw [hb] at h
      have := Nat.eq_of_beq_eq_true hb
      subst this
      simp only [cond_true, Option.some.injEq] at h
      subst h
      exact ⟨tvBeq_eq hc.1.1, hc.1.2⟩
    | false => rw [hb] at h; exact csOk_spec hc.2 t v (by simpa using h)

theorem csOk_mem {hk : List HSk} {σ : TS} : ∀ {cs : List (Nat × TV)}, csOk hk σ cs = true → ∀ x, x ∈ cs → σ.get x.1 = x.2
  | [], _, _, h => by cases h
  | (s, u) :: r, hc, x, h => by
    simp only [csOk, Bool.and_eq_true] at hc
    rcases List.mem_cons.1 h with rfl | h
    · exact tvBeq_eq hc.1.1
    · exact csOk_mem hc.2 x h

/-- how the named objects stand to those of a state -/
theorem fillH_spec : ∀ {hk : List HSk} {H : List TOb} {l vs : List TV}, heapVals hk H = some l → vs.length = l.length → (fillH hk vs).length = hk.length ∧ hk.length ≤ H.length ∧ l.length = (hkCodes hk).length ∧
    ∀ (b : Nat) q, (fillH hk vs)[b]? = some q → ∃ o, hk[b]? = some o ∧ ((o = .gone ∧ q = .gone) ∨ ∃ (e : TypeId) (u : U) (t v : TV) (i : Nat), o = .var e u ∧ q = .ob e (.var v) ∧ H[b]? = some (.ob e (.var t)) ∧ l[i]? = some t ∧ vs[i]? = some v)
  | [], H, l, vs, h, hl => by
    simp only [heapVals, Option.some.injEq] at h; subst h
    exact ⟨rfl, Nat.zero_le _, rfl, fun b q hq => by simp [fillH] at hq⟩
  | .gone :: r, [], l, vs, h, _ => by simp [heapVals] at h
  | .gone :: r, _ :: H, l, vs, h, hl => by
    simp only [heapVals] at h
    obtain ⟨h1, h2, h3, h4⟩ := fillH_spec h hl
    refine ⟨by simp [fillH, h1], by simp; omega, by simp only [hkCodes]; exact h3, fun b q hq => ?_⟩
    cases b with
    | zero => simp only [fillH, List.getElem?_cons_zero, Option.some.injEq] at hq; exact ⟨.gone, rfl, .inl ⟨rfl, hq.symm⟩⟩
    | succ b =>
      obtain ⟨o, g1, g2⟩ := h4 b q (by simpa [fillH] using hq)
      exact ⟨o, by simpa using g1, by simpa using g2⟩
  | .var e u :: r, [], l, vs, h, _ => by simp [heapVals] at h
  | .var e u :: r, .gone :: H, l, vs, h, _ => by simp [heapVals] at h
  | .var e u :: r, .ob e' (.row _ _) :: H, l, vs, h, _ => by simp [heapVals] at h
  | .var e u :: r, .ob e' (.var t) :: H, l, vs, h, hl => by
    simp only [heapVals] at h
    cases hb : Nat.beq e' e with
    | false => rw [hb] at h; cases h
    | true =>
      rw [hb] at h
      have := Nat.eq_of_beq_eq_true hb
      subst this
      simp only [cond_true] at h
      split at h
      · rename_i l' hl'
        cases h
        cases vs with
        | nil => simp at hl
        | cons v vs =>
          obtain ⟨h1, h2, h3, h4⟩ := fillH_spec hl' (vs := vs) (by simpa using hl)
          refine ⟨by simp [fillH, h1], by simp; omega, by simp only [hkCodes, List.length_cons, h3], fun b q hq => ?_⟩
          cases b with
          | zero =>
            simp only [fillH, List.getElem?_cons_zero, Option.some.injEq] at hq
            exact ⟨_, rfl, .inr ⟨e', u, t, v, 0, rfl, hq.symm, rfl, rfl, rfl⟩⟩
          | succ b =>
            obtain ⟨o, g1, g2⟩ := h4 b q (by simpa [fillH] using hq)
            refine ⟨o, by simpa using g1, ?_⟩
            rcases g2 with g2 | ⟨e2, u2, t2, v2, i, a1, a2, a3, a4, a5⟩
            · exact .inl g2
            · exact .inr ⟨e2, u2, t2, v2, i + 1, a1, a2, by simpa using a3, by simpa using a4, by simpa using a5⟩
      · cases h

/-- the context of what is kept -/
def keepCx (hk : List HSk) (c : Cx) : Cx := { c with m := hk.zipWith (fun o m => match o with | .var _ _ => m | .gone => none) c.m }

theorem keepCx_get {hk : List HSk} {c : Cx} {b k : Nat} (h : (keepCx hk c).m[b]? = some (some k)) : c.m[b]? = some (some k) := by
  simp only [keepCx, List.getElem?_zipWith] at h
  split at h
  · rename_i o m h1 h2
    cases o with
    | var e u => rw [h2]; exact h
    | gone => simp at h
  · cases h

theorem keepCx_here {hk : List HSk} {c : Cx} {b k : Nat} {o : HSk} (ho : hk[b]? = some o) (hh : o.here = true) (h : c.m[b]? = some (some k)) : (keepCx hk c).m[b]? = some (some k) := by
  simp only [keepCx, List.getElem?_zipWith, ho, h]
  cases o with
  | var e u => rfl
  | gone => cases hh

theorem shp_ok {p : Nat} {S : Shp} (hp : pinsB p S.hk = true) : S.xe.OK p := by
  intro R σ k r hw hc
  simp only [Shp.xe] at hc ⊢
  unfold Shp.close at hc
  split at hc
  · rename_i l hl
    cases hb : Nat.beq σ.n S.n && csOk S.hk σ S.cs with
    | false => rw [hb] at hc; cases hc
    | true =>
      rw [hb] at hc
      simp only [Bool.and_eq_true] at hb
      have hn := Nat.eq_of_beq_eq_true hb.1
      -- the values are right
      have hvw : ∀ t, t ∈ (S.ds.map (fun d => σ.get d.1) ++ l) → t.wf := by
        intro t ht
        rcases List.mem_append.1 ht with ht | ht
        · simp only [List.mem_map] at ht
          obtain ⟨d, _, rfl⟩ := ht
          exact get_wf hw _
        · have key : ∀ (hk : List HSk) (H : List TOb) (l : List TV), heapVals hk H = some l → (∀ o, o ∈ H → o.wf) → ∀ t, t ∈ l → t.wf := by
            intro hk
            induction hk with
            | nil => intro H l h _ t ht; simp only [heapVals, Option.some.injEq] at h; subst h; cases ht
            | cons o hk ih =>
              intro H l h hH t ht
              cases H with
              | nil => cases o <;> simp [heapVals] at h
              | cons q H =>
                cases o with
                | gone => simp only [heapVals] at h; exact ih H l h (fun o ho => hH o (by simp [ho])) t ht
                | var e u =>
                  cases q with
                  | gone => simp [heapVals] at h
                  | ob e' ob =>
                    cases ob with
                    | row _ _ => simp [heapVals] at h
                    | var s =>
                      simp only [heapVals] at h
                      cases hb : Nat.beq e' e with
                      | false => rw [hb] at h; cases h
                      | true =>
                        rw [hb] at h
                        simp only [cond_true] at h
                        split at h
                        · rename_i l' hl'
                          cases h
                          rcases List.mem_cons.1 ht with e1 | ht
                          · rw [e1]; exact (hH (.ob e' (.var s)) (by simp)).1
                          · exact ih H l' hl' (fun o ho => hH o (by simp [ho])) t ht
                        · cases h
          exact key S.hk σ.H l hl hw.H t ht
      obtain ⟨x, h1, h2, h3, h4⟩ := sealT_spec S.codes _ hvw hc
      refine ⟨x, h1, ?_⟩
      generalize hvs : splitT S.codes x = vs at h3 h4
      have hlen : (S.ds.map (fun d => σ.get d.1)).length = S.ds.length := by simp
      have hvl : (vs.drop S.ds.length).length = l.length := by
        rw [List.length_drop, h3, List.length_append, hlen]; omega
      obtain ⟨f1, f2, f3, f4⟩ := fillH_spec hl hvl
      have hdata : ∀ (i : Nat) t v, l[i]? = some t → (vs.drop S.ds.length)[i]? = some v → Sld t v := fun i t v ht hv => by
        rw [List.getElem?_drop] at hv
        refine h4 (S.ds.length + i) t v ?_ hv
        rw [List.getElem?_append_right (by simp), hlen, Nat.add_sub_cancel_left]; exact ht
      have hst : S.st x = { n := S.n, slots := zipD S.ds vs ++ S.cs, H := fillH S.hk (vs.drop S.ds.length) } := by simp only [Shp.st, hvs]
      have hvw2 : ∀ v, v ∈ vs → v.wf := fun v hv => by
        obtain ⟨i, hi⟩ := List.mem_iff_getElem?.1 hv
        have hlt : i < (S.ds.map (fun d => σ.get d.1) ++ l).length := by rw [← h3]; exact (List.getElem?_eq_some_iff.1 hi).1
        exact (h4 i _ v (List.getElem?_eq_getElem hlt) hi).wf
      refine ⟨?_, ?_⟩
      · rw [hst]
        refine ⟨fun y hy => ?_, fun o ho => ?_⟩
        · rcases List.mem_append.1 hy with hy | hy
          · have key : ∀ (ds : List (Nat × U)) (vs : List TV), (∀ v, v ∈ vs → v.wf) → ∀ y, y ∈ zipD ds vs → y.2.wf := by
              intro ds
              induction ds with
              | nil => intro vs _ y hy; cases vs <;> simp [zipD] at hy
              | cons d ds ih =>
                intro vs hv y hy
                cases vs with
                | nil => simp [zipD] at hy
                | cons v vs =>
                  simp only [zipD, List.mem_cons] at hy
                  rcases hy with rfl | hy
                  · exact hv v (by simp)
                  · exact ih vs (fun w hw => hv w (by simp [hw])) y hy
            exact key _ _ hvw2 y hy
          · have := csOk_mem hb.2 y hy
            rw [← this]; exact get_wf hw _
        · obtain ⟨b, hbo⟩ := List.mem_iff_getElem?.1 ho
          obtain ⟨o', g1, g2⟩ := f4 b o hbo
          rcases g2 with ⟨_, rfl⟩ | ⟨e, u, t, v, i, rfl, rfl, g3, g4, g5⟩
          · trivial
          · have := hdata i t v g4 g5
            refine ⟨this.wf, ?_⟩
            obtain ⟨u', y, rfl⟩ := this.data
            rfl
      · intro w c a hr
        have hT := relT hr
        have hms : ∀ k : Nat, some k ∈ (keepCx S.hk c).m → some k ∈ c.m := fun k hk => by
          obtain ⟨b, hb'⟩ := List.mem_iff_getElem?.1 hk
          exact List.mem_iff_getElem?.2 ⟨b, keepCx_get hb'⟩
        have hfoot : ∀ a n, Foot w c a n → Foot w (keepCx S.hk c) a n := by
          intro ad n hf
          rcases hf with hf | ⟨a1, a2, a3, a4, a5⟩
          · exact .inl hf
          · exact .inr ⟨a1, a2, fun hm => a3 (hms _ hm), a4, a5⟩
        have hgd : Gd w c := ⟨_, _, hr.1⟩
        have hmlen : c.m.length = σ.H.length := by rw [hr.1.len]; simp [TS.flat]
        refine ⟨keepCx S.hk c, ⟨?_, ?_⟩, fun w0 c0 hx => ⟨hx.os, hx.tape, hx.output, hx.size, fun k hk => hx.new k (hms k hk), hx.blocks, hx.ok, fun b k hbp hm => ?_⟩⟩
        · rw [hst]
          refine { len := ?_, inj := fun i j k h1 h2 => hr.1.inj i j k (keepCx_get h1) (keepCx_get h2), obj := ?_, tl := hr.1.tl, tal := fun i h => by simp [TS.flat] at h, tdead := fun i h => by simp [TS.flat] at h, tok := ?_, tinj := ?_, okn := hr.1.okn, okm := hr.1.okm, okt := ?_ }
          · simp only [keepCx, List.length_zipWith, TS.flat, List.length_map, f1]; omega
          · intro b ao hao
            simp only [TS.flat, List.getElem?_map] at hao
            cases hq : (fillH S.hk (vs.drop S.ds.length))[b]? with
            | none => rw [hq] at hao; cases hao
            | some q =>
              rw [hq] at hao
              simp only [Option.map_some, Option.some.injEq] at hao
              subst hao
              obtain ⟨o', g1, g2⟩ := f4 b q hq
              rcases g2 with ⟨rfl, rfl⟩ | ⟨e, u, t, v, i, rfl, rfl, g3, g4, g5⟩
              · simp only [TOb.flat, ObjC, keepCx, List.getElem?_zipWith, g1]
                have hlt : b < c.m.length := by
                  have : b < S.hk.length := (List.getElem?_eq_some_iff.1 g1).1
                  omega
                rw [List.getElem?_eq_getElem hlt]
              · have hs := hdata i t v g4 g5
                have ho := hr.1.obj b (.row t.cells e) (flatH (o := .var t) g3)
                obtain ⟨k, vs', fr, o1, o2, o3, o4, o5, o6⟩ := ho
                have hst' : v.stores = true := by obtain ⟨u', y, rfl⟩ := hs.data; rfl
                refine ⟨k, vs', fr, keepCx_here g1 rfl o1, o2, o3, by rw [o4]; exact hs.cells.1, leafs_cells hs.wf hst', ?_⟩
                obtain ⟨u', y, rfl⟩ := hs.data
                have hwv := hs.wf
                simp only [TV.wf] at hwv
                have hce := cells_v u' y hwv
                refine VRs.transfer hfoot _ ?_ (VRs_le hgd hs.cells o6)
                simp only [Ob.cells]
                rw [hce]; exact pure_cellU u' y hwv
          · intro i k j h; simp only [keepCx] at h; rw [hT] at h; simp at h
          · intro i i' k j j' h; simp only [keepCx] at h; rw [hT] at h; simp at h
          · intro i k j h; simp only [keepCx] at h; rw [hT] at h; simp at h
        · rw [hst]
          refine ⟨by rw [hr.2.1]; exact hn, fun t q hl' hlt => ?_⟩
          simp only [TS.flat] at hl' hlt
          rw [look_map] at hl'
          cases hlk : lookT (zipD S.ds vs ++ S.cs) t with
          | none => rw [hlk] at hl'; cases hl'
          | some v =>
            rw [hlk] at hl'
            simp only [Option.map_some, Option.some.injEq] at hl'
            subst hl'
            have hsz : t < a.tmps.size := by rw [hr.2.1]; simp only [TS.flat]; omega
            have hev := hr.2.eval (.tmp t)
            simp only [AS.eval, flat_get, Act.eval, Array.getD_eq_getD_getElem?, Array.getElem?_eq_getElem hsz, Option.getD_some] at hev
            refine ⟨a.tmps[t], by simp [hsz], ?_⟩
            rcases lookT_zipD hlk with ⟨i, d, d1, d2, d3⟩ | hcs
            · subst d2
              have hi : i < S.ds.length := (List.getElem?_eq_some_iff.1 d1).1
              have hs := h4 i (σ.get d.1) v (by rw [List.getElem?_append_left (by rw [hlen]; exact hi), List.getElem?_map, d1]; rfl) d3
              exact VR.transfer hfoot _ hs.pure (hs.pv _ _ _ hgd hev)
            · obtain ⟨e1, e2⟩ := csOk_spec hb.2 t v hcs
              rw [e1] at hev
              have htv : ∃ t0, lookT S.cs t0 = some v := ⟨t, hcs⟩
              -- what stays as it is
              have hkind : (∃ b r p, v = .ptr b r p) ∨ Ab.Pure v.pv := by
                have : tvBeq v v = true := by
                  have key : ∀ (cs : List (Nat × TV)), csOk S.hk σ cs = true → ∀ t v, lookT cs t = some v → tvBeq v v = true := by
                    intro cs
                    induction cs with
                    | nil => intro _ t v h; simp [lookT] at h
                    | cons y cs ih =>
                      intro hc t v h
                      obtain ⟨s, u⟩ := y
                      simp only [csOk, Bool.and_eq_true] at hc
                      simp only [lookT] at h
                      cases hb' : Nat.beq s t with
                      | true =>
                        rw [hb'] at h
                        simp only [cond_true, Option.some.injEq] at h
                        subst h
                        have := tvBeq_eq hc.1.1
                        rw [this] at hc
                        exact hc.1.1
                      | false => rw [hb'] at h; exact ih hc.2 t v (by simpa using h)
                  exact key S.cs hb.2 t v hcs
                cases v with
                | ptr b r p => exact .inl ⟨b, r, p, rfl⟩
                | fn f caps =>
                  cases caps with
                  | nil => exact .inr (by simp only [TV.pv, TV.pvs, Ab.Pure, Pures])
                  | cons _ _ => simp [tvBeq] at this
                | nil => exact .inr (by simp only [TV.pv, Ab.Pure, Pures]; exact ⟨rfl, trivial⟩)
                | nilp => exact .inr (by simp only [TV.pv, Ab.Pure])
                | nilf => exact .inr (by simp only [TV.pv, Ab.Pure])
                | nili => exact .inr (by simp only [TV.pv, Ab.Pure])
                | nilm => exact .inr (by simp only [TV.pv, Ab.Pure])
                | _ => simp [tvBeq] at this
              rcases hkind with ⟨b, rt, p', rfl⟩ | hpure
              · simp only [TV.pv, VR] at hev ⊢
                obtain ⟨k, k1, k2⟩ := hev
                simp only [okRef] at e2
                split at e2
                · rename_i o ho
                  exact ⟨k, keepCx_here ho e2 k1, k2⟩
                · cases e2
              · exact VR.transfer hfoot _ hpure hev
        · have hpin := hx.pin b k hbp hm
          have := List.all_eq_true.1 hp b (by simpa using hbp)
          split at this
          · rename_i o ho; exact keepCx_here ho this hpin
          · cases this
  · cases hc

/-! ### functions of data -/
def argSlotsT : List TV → Nat → List (Nat × TV)
  | [], _ => []
  | p :: ps, i => (i, p) :: argSlotsT ps (i + 1)

def res1K {R : Type} (P : Program) (σ : TS) (v : ResultVar) (k : TV → Option R) : Option R :=
  match v with
  | .tmp t => k (σ.get t)
  | .cell a t => loadK P σ.H t (σ.get a) k

def ressK {R : Type} (P : Program) (σ : TS) : List ResultVar → (List TV → Option R) → Option R
  | [], k => k []
  | v :: vs, k => res1K P σ v fun t => ressK P σ vs fun ts => k (t :: ts)

def resK {R : Type} (P : Program) (fn : Func) (σ : TS) (k : TV → Option R) : Option R :=
  ressK P σ fn.results.toList fun ts => match ts with
    | [t] => k t
    | ts => k (.tup ts)

/-- the typed results -/
inductive RS where
  | one (u : U)
  | tup (l : List U)

@[reducible] def RS.T : RS → Type
  | .one u => u.T
  | .tup l => LT l

def RS.tv : (r : RS) → r.T → TV
  | .one u, x => .v u x
  | .tup l, x => .tup (splitT l x)

def RS.close {R : Type} : (r : RS) → TV → (r.T → Option R) → Option R
  | .one u, t, k => sealK t u k
  | .tup l, .tup ts, k => sealT l ts k
  | .tup _, _, _ => none

/-- what a function's code comes to -/
def fnK (P : Program) (E : List Ent) (fn : Func) (h : HT) (l : List U) (r : RS) (x : LT l) : Option r.T :=
  match fn.body with
  | some c => evalK P E c h ⟨l.length + (fn.ntmps - l.length), argSlotsT (splitT l x) 0, []⟩ fun e σ => match e with
    | .normal | .ret => resK P fn σ fun t => r.close t some
    | _ => none
  | none => none

/-- the entry of a function of data -/
def entD (f : FuncId) (l : List U) (r : RS) (fn : LT l → Option r.T) : Ent where
  f := f
  ok := fun _ => true
  run := fun args k => sealT l args fun x => (fn x).bind fun y => k (r.tv y)

/-- a part of code -/
def subC : Code → List Nat → Code
  | c, [] => c
  | .seq a _, 0 :: p => subC a p
  | .seq _ b, _ :: p => subC b p
  | .cond _ a _, 0 :: p => subC a p
  | .cond _ _ b, _ :: p => subC b p
  | .block _ x, _ :: p => subC x p
  | .loop x, _ :: p => subC x p
  | c, _ => c

def bodyC (fn : Func) : Code := fn.body.getD .skip

end Go.Tm
