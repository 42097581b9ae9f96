import Derived.Test.YtamfpgmpofncoaaTm16to20
import Derived.Test.YtamfpgmpofncoaaAb11to15
/- The typed machine, part 21: what is known of functions, of use at calls. -/
set_option linter.unusedSimpArgs false
set_option linter.unusedVariables false
namespace Go.Tm
open Go.Ab

/-- arguments and objects of a callee, out of the caller's -/
theorem sig_fill {R : Type} {S : Sig} {args : List TV} {Hc : List TOb} {la lb : List TV} {k : LT S.codes → Option R} {r : R} (hwa : TV.wfs args) (hwH : ∀ o, o ∈ Hc → o.wf) (ha : leavesL S.A args = some la) (hb : leavesHs S.hp Hc = some lb)
    (h : (sealT S.codes (la ++ lb) fun x => guardsK (S.lens (splitT S.codes x)) (guardsL S.A args ++ guardsHs S.hp Hc) (k x)) = some r) :
    ∃ x, k x = some r ∧ FitsL args (S.args x) ∧ (∀ o, o ∈ S.heap x → o.wf) ∧ (S.heap x).length = Hc.length ∧ ∀ (i : Nat) o o', Hc[i]? = some o → (S.heap x)[i]? = some o' → FitsO o o' := by
  have la_len := leavesL_len _ _ ha
  have hlw : ∀ t, t ∈ la ++ lb → t.wf := fun t ht => by
    rcases List.mem_append.1 ht with ht | ht
    · exact leavesL_wf _ _ hwa ha t ht
    · exact leavesHs_wf _ _ hwH hb t ht
  obtain ⟨x, h1, h2, h3, h4⟩ := sealT_spec S.codes _ hlw h
  obtain ⟨h1, hg⟩ := guards_some h1
  obtain ⟨hg1, hg2⟩ := hg.split
  refine ⟨x, h1, ?_⟩
  unfold Sig.args Sig.heap
  generalize hvs : splitT S.codes x = vs at h3 h4 hg1 hg2
  have sld : SldL (la ++ lb) vs := ⟨h3.symm, h4⟩
  obtain ⟨s1, s2⟩ := sld.split
  have hnS : (codesP S.A).length = la.length := la_len.symm
  obtain ⟨ts', f1, f2⟩ := fillL_spec (lens := S.lens vs) S.A args (vs.drop la.length) hwa ha s1 hg1
  rw [List.take_append_drop] at f1
  obtain ⟨f3, f4⟩ := fillHs_spec (lens := S.lens vs) (ss := vs.drop la.length) [] hwH hb s2 hg2
  rw [List.append_nil] at f3 f4
  rw [f1, hnS]
  refine ⟨f2, fun o ho => ?_, f3, f4⟩
  obtain ⟨i, hi⟩ := List.mem_iff_getElem?.1 ho
  have hlt : i < Hc.length := by rw [← f3]; exact (List.getElem?_eq_some_iff.1 hi).1
  have := f4 i _ o (List.getElem?_eq_getElem hlt) hi
  generalize Hc[i] = o0 at this
  cases o <;> cases o0 <;> first | exact this.elim | trivial | exact this.2.1

theorem fit_good {w : World} {c : Cx} {Hc H' : List TOb} (g : Ab.Good w c (Hc.map TOb.flat) []) (h3 : H'.length = Hc.length) (h4 : ∀ (i : Nat) o o', Hc[i]? = some o → H'[i]? = some o' → FitsO o o') : Ab.Good w c (H'.map TOb.flat) [] := by
  refine Good.le g (by simp [h3]) fun i o1 o2 e1 e2 => ?_
  simp only [List.getElem?_map] at e1 e2
  cases e3 : Hc[i]? with
  | none => rw [e3] at e1; cases e1
  | some q =>
    cases e4 : H'[i]? with
    | none => rw [e4] at e2; cases e2
    | some q' =>
      rw [e3] at e1; rw [e4] at e2
      simp at e1 e2
      subst e1; subst e2
      exact OLe_of_fits (h4 i q q' e3 e4)

/-! ### functions that leave all as it is -/
def viewA (H : List TOb) (args : List TV) : List TV := bif puresB args then args else mvs (viewO 6 H) args

def noObs : List TOb → Bool
  | [] => true
  | _ => false

def entQ (S : Sig) (fn : LT S.codes → Option S.X.T) : Ent where
  f := S.f
  ok := fun H args => fitL S.A (viewA H args)
  run := fun H args k => match leavesL S.A (viewA H args), leavesHs S.hp [] with
    | some a, some b => bif Nat.beq S.pn 0 then sealT S.codes (a ++ b) fun x => guardsK (S.lens (splitT S.codes x)) (guardsL S.A (viewA H args) ++ guardsHs S.hp [])
        ((fn x).bind fun y => S.X.open' y fun _ τ => bif noObs τ.H && ((resTV τ).flatB || (puresB args && (resTV τ).pureB)) then k (resTV τ) else none) else none
    | _, _ => none

theorem back_foot {w w' : World} {c c' : Cx} {H : List AObj} (g : Ab.Good w c H []) (x : ExtP 0 w (calleeCx w c 0) w' c') (a : Addr) (n : Nat) (h : Foot w' c' a n) : Foot w' c a n := by
  rcases h with h | ⟨h1, h2, h3, h4, h5⟩
  · exact .inl h
  · rw [x.ok] at h5
    by_cases hlt : a.block < w.heap.size
    · obtain ⟨h6, h7, h8⟩ := h5 hlt
      exact .inr ⟨h1, h2, h6, h7, h8⟩
    · exact .inr ⟨h1, h2, fun h => hlt (g.mlt h), fun i j h => absurd (g.tlt h) hlt, g.okn _ _ (Nat.le_of_not_lt hlt)⟩

theorem quiet_ext {w w' : World} {c c0 c' : Cx} {H : List AObj} (g : Ab.Good w c H []) (hm : c0.m = []) (x : ExtP 0 w c0 w' c') : Ab.Good w' c H [] ∧ Ext w c w' c :=
  quiet_grow g x.os x.tape x.output x.size (fun b hb => x.blocks b hb (by rw [hm]; simp))

theorem entQ_ok {P : Program} {S : Sig} {fn : LT S.codes → Option S.X.T} (h : FnOK P S fn) : EntOK P (entQ S fn) := by
  intro R H args k r hH hwa hr
  simp only [entQ] at hr ⊢
  split at hr
  · rename_i la lb hla hlb
    cases hpn : Nat.beq S.pn 0 with
    | false => rw [hpn] at hr; cases hr
    | true =>
      rw [hpn] at hr
      simp only [cond_true] at hr
      have hp0 := Nat.eq_of_beq_eq_true hpn
      have hwa' := wfs_iff.2 hwa
      have hwv : TV.wfs (viewA H args) := by
        unfold viewA
        cases puresB args with
        | true => exact hwa'
        | false => exact (mvs_wf3 (view_wf hH 6) args hwa').1
      obtain ⟨x, h1, h2, h3, h4, h5⟩ := sig_fill hwv (by intro o ho; cases ho) hla hlb hr
      have hheap : S.heap x = [] := List.eq_nil_of_length_eq_zero h4
      rw [Option.bind_eq_some_iff] at h1
      obtain ⟨y, hy, hk⟩ := h1
      rw [h.open'] at hk
      have hwx := wfs_iff.1 h2.wf
      obtain ⟨r1, r2⟩ := h.ret x y hy hwx h3
      cases hc : noObs (S.X.at' y).2.H && ((resTV (S.X.at' y).2).flatB || (puresB args && (resTV (S.X.at' y).2).pureB)) with
      | false => rw [hc] at hk; cases hk
      | true =>
        rw [hc] at hk
        simp only [cond_true] at hk
        simp only [Bool.and_eq_true, Bool.or_eq_true] at hc
        obtain ⟨hn, hres⟩ := hc
        refine ⟨_, hk, r1, h.can, fun Y w c vs hY g hsz hv => ?_⟩
        have hcall := h.calls x y hy hwx h3
        rw [hheap, hp0] at hcall
        have hlen : vs.size = (((S.args x).map TV.pv)).length := by
          rw [List.length_map, h2.len, hsz]
          unfold viewA
          cases puresB args with
          | true => rfl
          | false => simp [mvs_map]
        cases hpu : puresB args with
        | true =>
          have hva : viewA H args = args := by unfold viewA; rw [hpu]; rfl
          have hp1 := (puresB_spec args hwa' hpu).1
          have g0 : Ab.Good w (calleeCx w c 0) [] [] := callee_good g 0
          have hv0 : VRs w (calleeCx w c 0) ((S.args x).map TV.pv) (fun i => vs[i]?) := by
            have h6 := h2.pvs
            rw [hva, pvs_map, pvs_map] at h6
            rw [pvs_map] at hp1
            exact VRs_le ⟨_, _, g0⟩ h6 (VRs.transfer (callee_foot 0) _ hp1 hv)
          refine (hcall w _ vs g0 rfl hlen hv0).mono ?_
          rintro e w' ⟨v, p, H', c', rfl, ⟨rfl, rfl⟩, g', hv', x'⟩
          obtain ⟨g1, x1⟩ := quiet_ext g rfl x'
          refine ⟨v, rfl, ?_, g1, x1⟩
          rcases hres with hf | ⟨_, hf⟩
          · exact Fl.to _ (flatB_spec _ r1 hf).1 hv'
          · exact VR.transfer (back_foot g x') _ (pureB_spec _ r1 hf).1 hv'
        | false =>
          have hva : viewA H args = mvs (viewO 6 H) args := by unfold viewA; rw [hpu]; rfl
          have M := view_mv hY g hH 6
          have hv0 : VRs w readCx ((S.args x).map TV.pv) (fun i => vs[i]?) := by
            have h6 := h2.pvs
            rw [hva, pvs_map (S.args x)] at h6
            rw [← pvs_map] at hv
            exact VRs_le ⟨_, _, read_good w⟩ h6 ((mvs_pvs M args hwa').2.1 _ hv)
          refine (hcall w _ vs (read_good w) rfl hlen hv0).mono ?_
          rintro e w' ⟨v, p, H', c', rfl, ⟨rfl, rfl⟩, g', hv', x'⟩
          obtain ⟨g1, x1⟩ := quiet_ext g rfl x'
          refine ⟨v, rfl, ?_, g1, x1⟩
          rcases hres with hf | ⟨hf, _⟩
          · exact Fl.to _ (flatB_spec _ r1 hf).1 hv'
          · rw [hpu] at hf; cases hf
  · cases hr

/-! ### functions to which objects are handed -/
def nameM : List HPat → List (Option Nat) → Nat → List Nat × List HPat
  | h :: hs, some b :: ρ, n => (b :: (nameM hs ρ n).1, (nameM hs ρ n).2)
  | h :: hs, none :: ρ, n => (n :: (nameM hs ρ (n + 1)).1, h :: (nameM hs ρ (n + 1)).2)
  | _, _, _ => ([], [])

def partOf (S : Sig) (H : List TOb) (args : List TV) : List (Option Nat) := ungone S.hp (bindHs H S.hp 0 (bindL S.A args (S.hp.map fun _ => none)))
def frzOf (S : Sig) (H : List TOb) (args : List TV) (ρ : List (Option Nat)) : List Nat := frzL S.A args ++ frzHs H S.hp ρ

def callP {R : Type} (S : Sig) (fn : LT S.codes → Option S.X.T) (σ1 : TS) (ρ : List Nat) (args : List TV) (k : TS → TV → Option R) : Option R :=
  match leavesL S.A (mvs (handF ρ) args), leavesHs S.hp (newH (handF ρ) σ1.H S.hp (ρ.map some)) with
  | some a, some b => bif Nat.beq (List.length S.hp) (List.length ρ) && handOk (List.length σ1.H) σ1.p S.pn ρ then
      sealT S.codes (a ++ b) fun x => guardsK (S.lens (splitT S.codes x)) (guardsL S.A (mvs (handF ρ) args) ++ guardsHs S.hp (newH (handF ρ) σ1.H S.hp (ρ.map some)))
        ((fn x).bind fun y => S.X.open' y fun _ τ => bif Nat.ble S.pn (List.length τ.H) then k (backS σ1 S.pn ρ τ.H) ((resTV τ).mv (backF (List.length σ1.H) S.pn ρ)) else none)
    else none
  | _, _ => none

def prepP {R : Type} (σ : TS) (fz : List Nat) (ρr : List (Option Nat)) (hs : List HPat) (args : List TV) (k : TS → List TV → Option R) : Option R :=
  bif namesOk σ.p ρr && Nat.beq (List.length hs) (List.length ρr) then k (stRe σ (fateOf σ.p σ.H ρr fz) hs ρr) (mvs (fateOf σ.p σ.H ρr fz) args) else none

def entP (S : Sig) (fn : LT S.codes → Option S.X.T) : EEnt where
  f := S.f
  ok := fun σ args => fitL S.A args
  run := fun σ args k =>
    prepP σ (frzOf S σ.H args (partOf S σ.H args)) (keepR (List.length σ.H) σ.p (frzOf S σ.H args (partOf S σ.H args)) (partOf S σ.H args) ++ (nameM S.hp (partOf S σ.H args) (List.length σ.H)).2.map fun _ => none)
      (List.replicate (List.length σ.H) .gone ++ (nameM S.hp (partOf S σ.H args) (List.length σ.H)).2) args fun σ1 args1 =>
        callP S fn σ1 (nameM S.hp (partOf S σ.H args) (List.length σ.H)).1 args1 k

theorem callP_does {R : Type} {P : Program} {S : Sig} {fn : LT S.codes → Option S.X.T} (h : FnOK P S fn) {σ : TS} {ρ : List Nat} {args : List TV} {k : TS → TV → Option R} {r : R} (hw : σ.wf) (hwa : TV.wfs args) (hr : callP S fn σ ρ args k = some r) : EDoes P S.f σ args k r := by
  unfold callP at hr
  split at hr
  · rename_i la lb hla hlb
    cases hc : Nat.beq (List.length S.hp) (List.length ρ) && handOk (List.length σ.H) σ.p S.pn ρ with
    | false => rw [hc] at hr; cases hr
    | true =>
      rw [hc] at hr
      simp only [cond_true] at hr
      simp only [Bool.and_eq_true] at hc
      obtain ⟨hc1, hc2⟩ := hc
      have hl := Nat.eq_of_beq_eq_true hc1
      have hwv : TV.wfs (mvs (handF ρ) args) := (mvs_wf3 (fun b o h => absurd h (handF_fz ρ b o)) args hwa).1
      have hwH : ∀ o, o ∈ newH (handF ρ) σ.H S.hp (ρ.map some) → o.wf := newH_wf' (fun b o h => absurd h (handF_fz ρ b o)) hw.H
      obtain ⟨x, h1, h2, h3, h4, h5⟩ := sig_fill hwv hwH hla hlb hr
      rw [Option.bind_eq_some_iff] at h1
      obtain ⟨y, hy, hk⟩ := h1
      rw [h.open'] at hk
      have hwx := wfs_iff.1 h2.wf
      obtain ⟨r1, r2⟩ := h.ret x y hy hwx h3
      cases hpn : Nat.ble S.pn (List.length (S.X.at' y).2.H) with
      | false => rw [hpn] at hk; cases hk
      | true =>
        rw [hpn] at hk
        simp only [cond_true] at hk
        have hw1 := backS_wf hw S.pn ρ r2
        have hw2 := (mv_wf (fun b o h => absurd h (backF_fz (List.length σ.H) S.pn ρ b o)) _ r1).1
        refine ⟨h.can, ⟨_, _, hk, hw1, hw2⟩, fun c w a vs hrel hsz hv => ?_⟩
        have g := hrel.good
        have hh : Hand c (σ.H.map TOb.flat).length S.pn ρ := by rw [List.length_map]; exact hand_spec hc2 hrel.1
        have g0 := fit_good (hand_heap hw.H g hh hl) h4 h5
        have M := hand_mvH g S.pn ρ
        have hv0 : VRs w (handCx w c S.pn ρ) ((S.args x).map TV.pv) (fun i => vs[i]?) := by
          have h6 := h2.pvs
          rw [pvs_map (S.args x)] at h6
          rw [← pvs_map] at hv
          exact VRs_le ⟨_, _, g0⟩ h6 ((mvs_pvs M args hwa).2.1 _ hv)
        refine ((h.calls x y hy hwx h3) w _ vs g0 rfl (by rw [List.length_map, h2.len, hsz, mvs_map, List.length_map]) hv0).mono ?_
        rintro e w' ⟨v, p, H', c', rfl, ⟨rfl, rfl⟩, g', hv', x'⟩
        obtain ⟨c3, b1, b2, b3⟩ := back_rel hrel hw hc2 r2 g' x' (Nat.le_of_ble_eq_true hpn)
        exact ⟨v, _, _, c3, rfl, hk, hw1, hw2, rfl, b1, b3 _ _ r1 hv', b2⟩
  · cases hr

theorem entP_ok {P : Program} {S : Sig} {fn : LT S.codes → Option S.X.T} (h : FnOK P S fn) : EEntOK P (entP S fn) := by
  intro R σ args k r hw hwa hr
  simp only [entP, prepP] at hr ⊢
  generalize hρr : (keepR (List.length σ.H) σ.p (frzOf S σ.H args (partOf S σ.H args)) (partOf S σ.H args) ++ (nameM S.hp (partOf S σ.H args) (List.length σ.H)).2.map fun _ => none) = ρr at hr
  generalize hhs : (List.replicate (List.length σ.H) HPat.gone ++ (nameM S.hp (partOf S σ.H args) (List.length σ.H)).2) = hs at hr
  generalize (nameM S.hp (partOf S σ.H args) (List.length σ.H)).1 = ρ at hr
  generalize frzOf S σ.H args (partOf S σ.H args) = fz at hr
  cases hc : namesOk σ.p ρr && Nat.beq (List.length hs) (List.length ρr) with
  | false => rw [hc] at hr; cases hr
  | true =>
    rw [hc] at hr
    simp only [cond_true] at hr
    simp only [Bool.and_eq_true] at hc
    have hwa' := wfs_iff.2 hwa
    have hd := callP_does h (stRe_wf hw) (mvs_wf3 (fateOf_wf hw.H) args hwa').1 hr
    refine ⟨hd.can, hd.wf, fun c w a vs hrel hsz hv => ?_⟩
    obtain ⟨q1, q2⟩ := rel_st hrel hw hc.1 fz (Nat.eq_of_beq_eq_true hc.2)
    have M := mvH_re hrel.good hw.H hrel.1 (ρ := ρr) fz
    have hv1 : VRs w (reCx c ρr) ((mvs (fateOf σ.p σ.H ρr fz) args).map TV.pv) (fun i => vs[i]?) := by
      rw [← pvs_map] at hv ⊢
      exact (mvs_pvs M args hwa').2.1 _ hv
    refine (hd.calls _ w a vs q1 (by rw [hsz, mvs_map, List.length_map]) hv1).mono ?_
    rintro e w' ⟨v, σ', t, c', e1, e2, e3, e4, e5, e6, e7, e8⟩
    exact ⟨v, σ', t, c', e1, e2, e3, e4, e5, e6, e7, ExtP.trans q2 e8⟩

/-! ### functions that write to what is handed to them, and lay nothing -/
def allN : List (Option Nat) → Option (List Nat)
  | [] => some []
  | some b :: r => match allN r with
    | some l => some (b :: l)
    | none => none
  | none :: _ => none

def zipObs : List Nat → List TOb → Option (List (Nat × TypeId × Ob))
  | [], [] => some []
  | b :: ρ, .ob e o :: H => match zipObs ρ H with
    | some l => some ((b, e, o) :: l)
    | none => none
  | _, _ => none

theorem zipObs_spec : ∀ {ρ : List Nat} {H : List TOb} {us : List (Nat × TypeId × Ob)}, zipObs ρ H = some us → us.map (·.1) = ρ ∧ ρ.length = H.length ∧ ∀ (j : Nat) u, us[j]? = some u → H[j]? = some (.ob u.2.1 u.2.2)
  | [], [], us, h => by cases h; exact ⟨rfl, rfl, fun j u hu => by simp at hu⟩
  | b :: ρ, .ob e o :: H, us, h => by
    simp only [zipObs] at h
    split at h
    · rename_i l hl
      cases h
      obtain ⟨h1, h2, h3⟩ := zipObs_spec hl
      refine ⟨by simp [h1], by simp [h2], fun j u hu => ?_⟩
      cases j with
      | zero => simp at hu; subst hu; rfl
      | succ j => simpa using h3 j u (by simpa using hu)
    · cases h
  | [], _ :: _, _, h => by simp [zipObs] at h
  | _ :: _, [], _, h => by simp [zipObs] at h
  | _ :: _, .gone :: _, _, h => by simp [zipObs] at h

/-- the callee's names, with the caller -/
def pinF (ρ : List Nat) (pn : Nat) (j : Nat) : Fate := bif Nat.blt j pn then .to (getN ρ j) else .gone

theorem pinF_fz (ρ : List Nat) (pn b : Nat) (o : Ob) : pinF ρ pn b ≠ .fz o := by
  unfold pinF
  cases Nat.blt b pn <;> simp

def callD {R : Type} (S : Sig) (fn : LT S.codes → Option S.X.T) (σ : TS) (ρ : List Nat) (args : List TV) (k : TV → List (Nat × TypeId × Ob) → List Nat → Option R) : Option R :=
  match leavesL S.A (mvs (handF ρ) args), leavesHs S.hp (newH (handF ρ) σ.H S.hp (ρ.map some)) with
  | some a, some b => bif Nat.beq (List.length S.hp) (List.length ρ) && Nat.beq S.pn (List.length ρ) && handOk (List.length σ.H) σ.p S.pn ρ then
      sealT S.codes (a ++ b) fun x => guardsK (S.lens (splitT S.codes x)) (guardsL S.A (mvs (handF ρ) args) ++ guardsHs S.hp (newH (handF ρ) σ.H S.hp (ρ.map some)))
        ((fn x).bind fun y => S.X.open' y fun _ τ => match zipObs ρ (τ.H.map (TOb.mv (pinF ρ S.pn))) with
          | some us => k ((resTV τ).mv (pinF ρ S.pn)) us []
          | none => none)
    else none
  | _, _ => none

def entD (S : Sig) (fn : LT S.codes → Option S.X.T) : DEnt where
  f := S.f
  ok := fun σ args => fitL S.A args
  run := fun σ args k => match allN (partOf S σ.H args) with
    | some ρ => callD S fn σ ρ args k
    | none => none

theorem setAll_at : ∀ (us : List (Nat × List PV × TypeId)) {H : List AObj} {j b : Nat} {cs : List PV} {e : TypeId}, (∀ i j b : Nat, (us.map (·.1))[i]? = some b → (us.map (·.1))[j]? = some b → i = j) → us[j]? = some (b, cs, e) → b < H.length → (D.setAll us H)[b]? = some (.row cs e)
  | [], _, j, _, _, _, _, h, _ => by simp at h
  | u :: us, H, 0, b, cs, e, hinj, h, hl => by
    simp only [List.getElem?_cons_zero, Option.some.injEq] at h
    subst h
    show (D.setAll us (H.set b _))[b]? = _
    rw [D.setAll_ne us fun hm => ?_]
    · rw [List.getElem?_set_self hl]
    · obtain ⟨i, hi⟩ := List.mem_iff_getElem?.1 hm
      have := hinj 0 (i + 1) b (by simp) (by simpa using hi)
      omega
  | u :: us, H, j + 1, b, cs, e, hinj, h, hl => by
    show (D.setAll us (H.set u.1 _))[b]? = _
    exact setAll_at us (fun i j b h1 h2 => by
      have := hinj (i + 1) (j + 1) b (by simpa using h1) (by simpa using h2)
      omega) (by simpa using h) (by simpa using hl)

theorem entD_ok {P : Program} {S : Sig} {fn : LT S.codes → Option S.X.T} (h : FnOK P S fn) : DEntOK P (entD S fn) := by
  intro R σ args k r hw hwa hr
  simp only [entD] at hr ⊢
  split at hr
  · rename_i ρ hρ0
    have hwa' := wfs_iff.2 hwa
    unfold callD at hr
    split at hr
    · rename_i la lb hla hlb
      cases hc : Nat.beq (List.length S.hp) (List.length ρ) && Nat.beq S.pn (List.length ρ) && handOk (List.length σ.H) σ.p S.pn ρ with
      | false => rw [hc] at hr; cases hr
      | true =>
        rw [hc] at hr
        simp only [cond_true] at hr
        simp only [Bool.and_eq_true] at hc
        obtain ⟨⟨hc1, hc3⟩, hc2⟩ := hc
        have hl := Nat.eq_of_beq_eq_true hc1
        have hpn := Nat.eq_of_beq_eq_true hc3
        have hwv : TV.wfs (mvs (handF ρ) args) := (mvs_wf3 (fun b o h => absurd h (handF_fz ρ b o)) args hwa').1
        have hwH : ∀ o, o ∈ newH (handF ρ) σ.H S.hp (ρ.map some) → o.wf := newH_wf' (fun b o h => absurd h (handF_fz ρ b o)) hw.H
        obtain ⟨x, h1, h2, h3, h4, h5⟩ := sig_fill hwv hwH hla hlb hr
        rw [Option.bind_eq_some_iff] at h1
        obtain ⟨y, hy, hk⟩ := h1
        rw [h.open'] at hk
        have hwx := wfs_iff.1 h2.wf
        obtain ⟨r1, r2⟩ := h.ret x y hy hwx h3
        split at hk
        · rename_i us hus
          obtain ⟨u1, u2, u3⟩ := zipObs_spec hus
          simp only [List.length_map] at u2
          have hlt : ∀ b, b ∈ us.map (·.1) ++ [] → b < σ.H.length := fun b hb => by
            rw [List.append_nil, u1] at hb
            simp only [handOk, Bool.and_eq_true] at hc2
            exact boundL_spec hc2.1.1.1 b hb
          refine ⟨_, us, [], hk, h.can, (mv_wf (fun b o h => absurd h (pinF_fz ρ S.pn b o)) _ r1).1, fun u hu => ?_, hlt, fun Y w c vs hY g hsz hv => ?_⟩
          · obtain ⟨j, hj⟩ := List.mem_iff_getElem?.1 hu
            have := List.mem_of_getElem? (u3 j u hj)
            simp only [List.mem_map] at this
            obtain ⟨o', ho', e'⟩ := this
            have hwf := tob_mv_wf (fun b o h => absurd h (pinF_fz ρ S.pn b o)) (r2 _ ho')
            rw [e'] at hwf
            exact hwf
          · -- the names
            have hYρ : ∀ b, b ∈ ρ → Y[b]? = (σ.H.map TOb.flat)[b]? := fun b hb => hY b (by rw [List.append_nil, u1]; exact hb)
            have hltY : ∀ b, b ∈ ρ → b < Y.length := fun b hb => by
              have h6 := hlt b (by rw [List.append_nil, u1]; exact hb)
              have h7 := hYρ b hb
              rw [List.getElem?_map, List.getElem?_eq_getElem h6] at h7
              exact (List.getElem?_eq_some_iff.1 h7).1
            have hh0 : Hand { c with pn := σ.p } σ.H.length S.pn ρ := hand_spec hc2 rfl
            have hh : Hand c Y.length S.pn ρ := ⟨fun j b hj => hltY b (List.mem_of_getElem? hj), hh0.inj, fun j b hj hb => by
              have := (List.getElem?_eq_some_iff.1 hb).1; omega, hh0.pnl⟩
            have M := hand_mvH g S.pn ρ
            have g0 : Ab.Good w (handCx w c S.pn ρ) ((newH (handF ρ) σ.H S.hp (ρ.map some)).map TOb.flat) [] := by
              refine hand_good g hh (by rw [List.length_map, newH_len (by simpa using hl), List.length_map]) fun j b o hj ho => ?_
              simp only [List.getElem?_map] at ho
              cases hq : (newH (handF ρ) σ.H S.hp (ρ.map some))[j]? with
              | none => rw [hq] at ho; cases ho
              | some q =>
                rw [hq] at ho
                simp only [Option.map_some, Option.some.injEq] at ho
                subst ho
                have hYb := hYρ b (List.mem_of_getElem? hj)
                have hbl := hlt b (by rw [List.append_nil, u1]; exact List.mem_of_getElem? hj)
                rcases newH_get hq with ⟨h1, _⟩ | ⟨b', h1, h2⟩
                · rw [List.getElem?_map, hj] at h1; cases h1
                · rw [List.getElem?_map, hj] at h1
                  cases h1
                  rcases h2 with ⟨e, t, h2, rfl⟩ | ⟨e, u, l, h2, rfl⟩ | ⟨h2, rfl⟩
                  · have hwt := hw.H _ (List.mem_of_getElem? h2)
                    have m := mv_spec M t hwt.1
                    exact .inr ⟨t.cells, e, _, by rw [hYb, List.getElem?_map, h2]; rfl, rfl, m.len, m.leafs (leafs_cells hwt.1 hwt.2), fun fv hf => m.cells fv hf⟩
                  · have hwt := hw.H _ (List.mem_of_getElem? h2)
                    exact .inr ⟨rowU u l, e, _, by rw [hYb, List.getElem?_map, h2]; rfl, rfl, rfl, leafs_rowU hwt, fun fv hf => VRs.transfer (fun a n h => M.base.foot a n h) _ (Pures_rowU hwt) hf⟩
                  · rcases h2 with h2 | h2
                    · have := List.getElem?_eq_none_iff.1 h2; omega
                    · exact .inl ⟨by rw [hYb, List.getElem?_map, h2]; rfl, rfl⟩
            have g1 := fit_good g0 h4 h5
            have hv0 : VRs w (handCx w c S.pn ρ) ((S.args x).map TV.pv) (fun i => vs[i]?) := by
              have h6 := h2.pvs
              rw [pvs_map (S.args x)] at h6
              rw [← pvs_map] at hv
              exact VRs_le ⟨_, _, g1⟩ h6 ((mvs_pvs M args hwa').2.1 _ hv)
            refine ((h.calls x y hy hwx h3) w _ vs g1 rfl (by rw [List.length_map, h2.len, hsz, mvs_map, List.length_map]) hv0).mono ?_
            rintro ed w' ⟨v, p, H', c', rfl, ⟨rfl, rfl⟩, g', hv', x'⟩
            have hlen' : ((S.X.at' y).2.H.map TOb.flat).length = S.pn := by rw [List.length_map, ← u2, hpn]
            have hcm : c'.m.length = S.pn := by rw [g'.len, hlen']
            have xx := back_ext g hh g' x'
            have M0 := back_mv_new g hh g' x' (by omega)
            have M2 : MvH (pinF ρ S.pn) w' c' w' (backCx c c' Y.length S.pn ρ) := by
              refine ⟨⟨M0.noT, fun b j k hf hm => ?_, M0.foot, M0.cell, M0.room⟩, fun b o h => absurd h (pinF_fz _ _ b o), fun b o k h => absurd h (pinF_fz _ _ b o)⟩
              unfold pinF at hf
              cases hb : Nat.blt b S.pn with
              | false => rw [hb] at hf; cases hf
              | true =>
                rw [hb] at hf
                simp only [cond_true, Fate.name, Option.some.injEq] at hf
                subst hf
                have := M0.id b _ k rfl hm
                unfold backName at this
                rw [if_pos (Nat.blt_eq.mp hb)] at this
                rw [getN_eq, List.getD_eq_getElem?_getD]; exact this
            have ids : ∀ b k : Nat, c.m[b]? = some (some k) → (backCx c c' Y.length S.pn ρ).m[b]? = some (some k) := fun b k hb => by
              have hbl : b < Y.length := by rw [← g.len]; exact (List.getElem?_eq_some_iff.1 hb).1
              cases hp : posOf ρ b with
              | none => rw [back_old hbl, hp]; simp only [hb, Option.join_some]
              | some j =>
                have hj := posOf_some hp
                have hlj : j < S.pn := by rw [hpn]; exact (List.getElem?_eq_some_iff.1 hj).1
                rw [back_pin hh.inj hbl hj hlj (by omega)]
                exact x'.pin j k hlj (handCx_at hj hb)
            have hT : c.T = [] := Ab.noT g
            have X : Ext w c w' (backCx c c' Y.length S.pn ρ) :=
              { os := xx.os, tape := xx.tape, output := xx.output, size := xx.size
                ids := ids
                new := xx.new
                blocks := fun k hk hkm _ => xx.blocks k hk hkm
                cells := fun k hk hkm off v _ hv => by rw [cell_of_block (xx.blocks k hk hkm)]; exact hv
                toks := fun i k j h => by rw [show (backCx c c' Y.length S.pn ρ).T = c.T from rfl, hT] at h; simp at h
                stay := fun i k j hi h => by rw [hT] at hi; simp at hi
                tlen := Nat.le_refl _
                room := xx.room
                pn := xx.pn
                ok := xx.ok }
            refine ⟨v, _, rfl, (mv_spec M2 _ r1).pv v hv', ?_, X⟩
            have hinjU : ∀ i j b : Nat, ((usOf us).map (·.1))[i]? = some b → ((usOf us).map (·.1))[j]? = some b → i = j := by
              have : (usOf us).map (·.1) = ρ := by rw [← u1]; simp [usOf]
              rw [this]; exact hh.inj
            have huslen : us.length = ρ.length := by rw [← u1, List.length_map]
            refine (back_good2 g hh g' x' (by omega) (H3 := D.setAll (usOf us) Y) (by rw [D.setAll_len]; omega) (fun j b hj hb => ?_) (fun j b hj hb => ?_) (fun b o hb hno ho => ?_) (fun j hj hl => ?_)).1
            · have hju : j < us.length := by rw [huslen, ← hpn]; exact hj
              have hu := List.getElem?_eq_getElem hju
              generalize us[j] = u at hu
              have hub : u.1 = b := by
                have : (us.map (·.1))[j]? = some u.1 := by rw [List.getElem?_map, hu]; rfl
                rw [u1, hb] at this
                exact (Option.some.inj this).symm
              have h6 := u3 j u hu
              rw [List.getElem?_map] at h6
              cases h7 : (S.X.at' y).2.H[j]? with
              | none => rw [h7] at h6; cases h6
              | some o0 =>
                rw [h7] at h6
                simp only [Option.map_some, Option.some.injEq] at h6
                refine ⟨o0.flat, .row u.2.2.cells u.2.1, by rw [List.getElem?_map, h7]; rfl, ?_, ?_⟩
                · refine setAll_at (usOf us) (j := j) hinjU ?_ (hltY b (List.mem_of_getElem? hb))
                  simp only [usOf, List.getElem?_map, hu, Option.map_some, hub]
                · rcases tob_mv M2 (r2 _ (List.mem_of_getElem? h7)) with ⟨e1, e2⟩ | ⟨cs, e, cs2, e1, e2, e3, e4, e5⟩
                  · rw [h6] at e2; cases e2
                  · rw [h6] at e2
                    cases e2
                    exact .inr ⟨cs, u.2.1, _, e1, rfl, e3, e4, e5⟩
            · have := (List.getElem?_eq_some_iff.1 hb).1; omega
            · have hnm : b ∉ (usOf us).map (·.1) := by
                have : (usOf us).map (·.1) = ρ := by rw [← u1]; simp [usOf]
                rw [this]
                intro hm
                obtain ⟨i, hi⟩ := List.mem_iff_getElem?.1 hm
                exact hno i hi
              rw [D.setAll_ne _ hnm] at ho
              have hob := g.obj b o ho
              have hp : posOf ρ b = none := by
                cases hp : posOf ρ b with
                | none => rfl
                | some j => exact absurd (posOf_some hp) (hno j)
              have hm : (backCx c c' Y.length S.pn ρ).m[b]? = c.m[b]? := by
                rw [back_old hb, hp]
                have hbl : b < c.m.length := by rw [g.len]; exact hb
                rw [List.getElem?_eq_getElem hbl]; rfl
              have same : ∀ k : Nat, c.m[b]? = some (some k) → w'.heap[k]? = w.heap[k]? := fun k hk => by
                refine x'.blocks k (ObjC.lt g hk) fun hm => ?_
                obtain ⟨i, b', h12, h13⟩ := handCx_mem hm
                have := g.inj b b' k hk h13
                subst this
                exact hno i h12
              cases o with
              | row cs e =>
                rcases hob with ⟨e1, e2⟩ | ⟨k, vs', fr, e1, e2, e3, e4, e5, e6⟩
                · exact .inl ⟨e1, hm.trans e2⟩
                · exact .inr ⟨k, vs', fr, hm.trans e1, by rw [same k e1]; exact e2, e3, e4, e5, VRs.ext X cs (fun _ _ _ e => e) e6⟩
              | raw ob =>
                obtain ⟨k, e1, e2⟩ := hob
                exact ⟨k, hm.trans e1, by rw [same k e1]; exact e2⟩
              | gone => exact hm.trans hob
            · omega
        · cases hk
    · cases hr
  · cases hr

end Go.Tm

/- The typed machine, part 22: closed calls are run. -/
set_option linter.unusedSimpArgs false
set_option linter.unusedVariables false
namespace Go.Tm
open Go.Ab

/-- what a function's code comes to, run -/
noncomputable def runK (P : Program) (V : Env) (n : Nat) (f : FuncId) (args : List TV) : Option TV :=
  match P.funcs[f]? with
  | some fn => match fn.body with
    | some c => bif puresB args && callable P f then evalK P V c (.run n) ⟨List.length args + (fn.ntmps - List.length args), argSlotsT args 0, [], 0⟩ (fun e σ => match e with
        | .normal | .ret => resK P fn σ fun t => bif t.pureB then some t else none
        | _ => none) else none
    | none => none
  | none => none

/-- an entry that runs a function's code -/
noncomputable def entR (P : Program) (V : Env) (n : Nat) (f : FuncId) : Ent where
  f := f
  ok := fun _ _ => true
  run := fun _ args k => (runK P V n f args).bind k

theorem run_called {P : Program} {V : Env} (hV : EnvsOK P V) {n : Nat} {f : FuncId} {H : List TOb} {args : List TV} {t : TV} (hw : ∀ a, a ∈ args → a.wf) (hr : runK P V n f args = some t) : t.wf ∧ CallQ P f H args t := by
  unfold runK at hr
  split at hr
  · rename_i fn hfn
    split at hr
    · rename_i c hbody
      cases hc : puresB args && callable P f with
      | false => rw [hc] at hr; cases hr
      | true =>
        rw [hc] at hr
        simp only [cond_true] at hr
        simp only [Bool.and_eq_true] at hc
        have hwf0 : TS.wf ⟨List.length args + (fn.ntmps - List.length args), argSlotsT args 0, [], 0⟩ := ⟨fun z hz => hw _ (argSlots_mem hz), fun o ho => by cases ho⟩
        have post : ∀ e σ', σ'.wf → (match e, σ' with | Exit.normal, σ' | Exit.ret, σ' => resK P fn σ' fun t => bif t.pureB then some t else none | _, _ => none) = some t →
            (e = .normal ∨ e = .ret) ∧ t.wf ∧ t.pureB = true ∧ ResP P fn σ'.flat t.pv := by
          intro e σ' hwσ he
          have : (e = .normal ∨ e = .ret) ∧ (resK P fn σ' fun t => bif t.pureB then some t else none) = some t := by
            cases e <;> first | (cases he; done) | exact ⟨.inl rfl, he⟩ | exact ⟨.inr rfl, he⟩
          obtain ⟨h5, h6⟩ := this
          obtain ⟨q, q1, q2, q3⟩ := res_spec hwσ h6
          cases hp : q.pureB with
          | false => rw [hp] at q1; cases q1
          | true => rw [hp] at q1; cases q1; exact ⟨h5, q2, hp, q3⟩
        obtain ⟨e0, σ0, hw0, he0⟩ := eval_wf' hV c (.run n) (hok_run P n c) hwf0 hr
        obtain ⟨_, hgw, hgp, _⟩ := post e0 σ0 hw0 (by revert he0; cases e0 <;> exact id)
        refine ⟨hgw, hc.2, fun Y w cx vs hY g hsz hv => ?_⟩
        have hp1 := (puresB_spec args (wfs_iff.2 hw) hc.1).1
        have g0 : Ab.Good w (calleeCx w cx 0) [] [] := callee_good g 0
        rw [pvs_map] at hp1
        have hv0 := VRs.transfer (callee_foot 0) _ hp1 hv
        have ht := eval_spec hV c (.run n) (hok_run P n c) hr
        refine calls_of_wp hfn hbody (ht (calleeCx w cx 0) _ w _ ⟨rfl, g0, ?_⟩ hwf0 ?_)
        · refine ⟨by simp [hsz, TS.flat], fun t p hl hlt => ?_⟩
          simp only [TS.flat, argSlots_flat] at hl
          obtain ⟨_, h2⟩ := look_argSlots _ 0 t p hl
          simp only [Nat.sub_zero] at h2
          obtain ⟨v, h3, h4⟩ := VRs_get hv0 h2
          have hlt' : t < vs.size := by rw [hsz]; have := (List.getElem?_eq_some_iff.1 h2).1; simpa using this
          exact ⟨v, by rw [Array.getElem?_append_left hlt']; exact h3, h4⟩
        · intro e c' a' w' σ' hQ hw' hr' hx hd
          obtain ⟨he, _, hpb, hres⟩ := post e σ' hw' (by revert hQ; cases e <;> exact id)
          obtain ⟨v, h1, h2⟩ := hres w' c' a' hr'.2.1 hr'.2.2
          obtain ⟨g1, x1⟩ := quiet_ext g rfl hx
          have h3 : VR w' cx t.pv v := VR.transfer (back_foot g hx) _ (pureB_spec _ hgw hpb).1 h2
          rcases he with rfl | rfl
          · exact ⟨hd, v, h1, v, rfl, h3, g1, x1⟩
          · exact ⟨hd, v, h1, v, rfl, h3, g1, x1⟩
    · cases hr
  · cases hr

theorem entR_ok {P : Program} {V : Env} (hV : EnvsOK P V) (n : Nat) (f : FuncId) : EntOK P (entR P V n f) := by
  intro R H args k r hH hw hr
  simp only [entR] at hr ⊢
  rw [Option.bind_eq_some_iff] at hr
  obtain ⟨t, h1, h2⟩ := hr
  obtain ⟨h3, h4⟩ := run_called hV hw h1
  exact ⟨t, h2, h3, h4⟩

/-- all of some functions, run to a depth -/
noncomputable def runs (P : Program) (n : Nat) (fs : List FuncId) : Nat → List Ent
  | 0 => []
  | d + 1 => fs.map fun f => entR P ⟨runs P n fs d, [], []⟩ n f

theorem runs_ok (P : Program) (n : Nat) (fs : List FuncId) : ∀ d, EnvsOK P ⟨runs P n fs d, [], []⟩
  | 0 => ⟨env_nil P, fenv_nil P, denv_nil P⟩
  | d + 1 => ⟨fun e he => by
    simp only [runs, List.mem_map] at he
    obtain ⟨f, _, rfl⟩ := he
    exact entR_ok (runs_ok P n fs d) n f, fenv_nil P, denv_nil P⟩

/-- a closed call's answer, as an entry -/
def entC (f : FuncId) (t : TV) : Ent where
  f := f
  ok := fun _ args => match args with
    | [] => true
    | _ => false
  run := fun _ args k => match args with
    | [] => k t
    | _ => none

/-- A closed call, run. -/
theorem closed_ok {P : Program} {n d : Nat} {fs : List FuncId} {f : FuncId} {t : TV} (h : runK P ⟨runs P n fs d, [], []⟩ n f [] = some t) : EntOK P (entC f t) := by
  intro R H args k r hH hw hr
  simp only [entC] at hr ⊢
  split at hr
  · obtain ⟨h3, h4⟩ := run_called (runs_ok P n fs d) (fun a ha => by cases ha) h
    exact ⟨t, hr, h3, h4⟩
  · cases hr

end Go.Tm

/- The typed machine, part 23: a law's arguments read as typed values; a law that answers true. -/
set_option linter.unusedSimpArgs false
set_option linter.unusedVariables false
namespace Go.Tm
open Go.Ab

mutual
theorem U.beq_self : ∀ u : U, u.beq u = true
  | .int k => by cases k <;> rfl
  | .bool => rfl
  | .str => rfl
  | .leaf => rfl
  | .arr n u => by simp only [U.beq, Nat.beq_refl, U.beq_self u, Bool.and_self]
  | .sl u => by simp only [U.beq, U.beq_self u]
  | .st us => by simp only [U.beq, Us.beq_self us]
theorem Us.beq_self : ∀ u : Us, u.beq u = true
  | .one u => by simp only [Us.beq, U.beq_self u]
  | .cons u us => by simp only [Us.beq, U.beq_self u, Us.beq_self us, Bool.and_self]
end

theorem castK_refl {R : Type} (u : U) (x : u.T) (k : u.T → Option R) : castK u u x k = k x := by
  unfold castK
  split
  · rfl
  · rename_i h; rw [U.beq_self] at h; cases h

mutual
/-- no string or slice is beyond a machine's reach -/
def limU : (u : U) → u.T → Prop
  | .str, s => List.length s ≤ maxLen
  | .arr _ u, l => ∀ x, x ∈ l → limU u x
  | .sl u, l => List.length l ≤ maxLen ∧ ∀ x, x ∈ l → limU u x
  | .st us, x => limUs us x
  | _, _ => True
def limUs : (us : Us) → us.T → Prop
  | .one u, x => limU u x
  | .cons u us, x => limU u x.1 ∧ limUs us x.2
end

theorem ba_bytes (l : List UInt8) : ba (l.map fun b => (b.toNat : Int)) = ⟨l.toArray⟩ := by
  unfold ba
  congr 2
  rw [List.map_map]
  have : ((fun n : Int => UInt8.ofNat n.toNat) ∘ fun b : UInt8 => (b.toNat : Int)) = id := by
    funext b; simp
  rw [this, List.map_id]

theorem fits_list {H : Type} {P : Program} {n : Nat} {e : TypeId} {u : U} (h : ∀ d : DataW H, Ab.Fits P n e d → ∃ x : u.T, wfU u x ∧ limU u x ∧ cellsD d = cellU u x) :
    ∀ xs : List (DataW H), (∀ x, x ∈ xs → Ab.Fits P n e x) → ∃ l : List u.T, l.length = xs.length ∧ (∀ x, x ∈ l → wfU u x) ∧ (∀ x, x ∈ l → limU u x) ∧ cellsDs xs = l.flatMap fun x => cellU u x
  | [], _ => ⟨[], rfl, fun x hx => (by cases hx), fun x hx => (by cases hx), by simp [cellsDs]⟩
  | d :: xs, hf => by
    obtain ⟨x, h1, h2, h3⟩ := h d (hf d (by simp))
    obtain ⟨l, g1, g2, g3, g4⟩ := fits_list h xs fun y hy => hf y (by simp [hy])
    refine ⟨x :: l, by simp [g1], fun y hy => ?_, fun y hy => ?_, by simp [cellsDs, h3, g4]⟩
    · rcases List.mem_cons.1 hy with rfl | hy
      · exact h1
      · exact g2 y hy
    · rcases List.mem_cons.1 hy with rfl | hy
      · exact h2
      · exact g3 y hy

mutual
theorem fits_u {H : Type} {P : Program} : ∀ (u : U) (n m : Nat) (t : TypeId) (d : DataW H), Ab.Fits P n t d → agree P m t u = true → ∃ x : u.T, wfU u x ∧ limU u x ∧ cellsD d = cellU u x
  | _, 0, _, _, _, h, _ => h.elim
  | _, _ + 1, 0, _, _, _, h => by simp [agree] at h
  | .int k, n + 1, m + 1, t, d, hf, ha => by
    simp only [agree, Bool.and_eq_true] at ha
    simp only [Ab.Fits] at hf
    cases hu : P.underlying t with
    | none => rw [hu] at hf; exact hf.elim
    | some y =>
      rw [hu] at ha hf
      cases y <;> first | (cases ha.2; done) | skip
      rename_i k'
      have := kindBeq_eq ha.2
      subst this
      obtain ⟨x, rfl, hw⟩ := hf
      refine ⟨x, ?_, trivial, rfl⟩
      simpa [wfU, Lit.wf] using hw
  | .bool, n + 1, m + 1, t, d, hf, ha => by
    simp only [agree, Bool.and_eq_true] at ha
    simp only [Ab.Fits] at hf
    cases hu : P.underlying t with
    | none => rw [hu] at hf; exact hf.elim
    | some y =>
      rw [hu] at ha hf
      cases y <;> first | (cases ha.2; done) | skip
      obtain ⟨b, rfl⟩ := hf
      exact ⟨b, trivial, trivial, rfl⟩
  | .str, n + 1, m + 1, t, d, hf, ha => by
    simp only [agree, Bool.and_eq_true] at ha
    simp only [Ab.Fits] at hf
    cases hu : P.underlying t with
    | none => rw [hu] at hf; exact hf.elim
    | some y =>
      rw [hu] at ha hf
      cases y <;> first | (cases ha.2; done) | skip
      obtain ⟨l, rfl, hl⟩ := hf
      refine ⟨l.map fun b => (b.toNat : Int), ?_, ?_, ?_⟩
      · intro i hi
        simp only [List.mem_map] at hi
        obtain ⟨b, _, rfl⟩ := hi
        have := b.toNat_lt
        exact ⟨by omega, by omega⟩
      · simpa [limU] using hl
      · simp only [cellsD, cellU, ba_bytes]
  | .arr k u, n + 1, m + 1, t, d, hf, ha => by
    simp only [agree, Bool.and_eq_true] at ha
    simp only [Ab.Fits] at hf
    cases hu : P.underlying t with
    | none => rw [hu] at hf; exact hf.elim
    | some y =>
      rw [hu] at ha hf
      cases y <;> first | (cases ha.2; done) | skip
      obtain ⟨xs, rfl, hl, hx⟩ := hf
      have ha := ha.2
      simp only [Bool.and_eq_true] at ha
      have ek := Nat.eq_of_beq_eq_true ha.1
      obtain ⟨l, g1, g2, g3, g4⟩ := fits_list (fun d hd => fits_u u n m _ d hd ha.2) xs hx
      exact ⟨l, ⟨by rw [g1, hl, ek], g2⟩, g3, by simp only [cellsD, cellU, g4]⟩
  | .sl u, n + 1, m + 1, t, d, hf, ha => by
    simp only [agree, Bool.and_eq_true] at ha
    simp only [Ab.Fits] at hf
    cases hu : P.underlying t with
    | none => rw [hu] at hf; exact hf.elim
    | some y =>
      rw [hu] at ha hf
      cases y <;> first | (cases ha.2; done) | skip
      rcases hf with rfl | ⟨es, sp, rfl, hcap, hx⟩
      · exact ⟨[], fun x hx => (by cases hx), ⟨Nat.zero_le _, fun x hx => (by cases hx)⟩, by simp [cellsD, cellU]⟩
      · obtain ⟨l, g1, g2, g3, g4⟩ := fits_list (fun d hd => fits_u u n m _ d hd ha.2) es hx
        exact ⟨l, g2, ⟨by rw [g1]; exact hcap, g3⟩, by simp only [cellsD, cellU, g4, g1]⟩
  | .st us, n + 1, m + 1, t, d, hf, ha => by
    simp only [agree, Bool.and_eq_true] at ha
    simp only [Ab.Fits] at hf
    cases hu : P.underlying t with
    | none => rw [hu] at hf; exact hf.elim
    | some y =>
      rw [hu] at ha hf
      cases y <;> first | (cases ha.2; done) | skip
      rename_i fs
      obtain ⟨xs, rfl, hl, hx⟩ := hf
      obtain ⟨x, g1, g2, g3⟩ := fits_us us n m fs.toList xs 0 (by simpa using hl.symm) (fun i f x hi hxi => hx i f x (by simpa using hi) hxi) ha.2
      exact ⟨x, g1, g2, by simp only [cellsD, cellU, g3]⟩
  | .leaf, n + 1, m + 1, t, d, hf, ha => by
    simp only [agree, Bool.and_eq_true] at ha
    cases hu : P.underlying t with
    | none => rw [hu] at ha; cases ha.2
    | some y =>
      rw [hu] at ha
      cases y <;> cases ha.2
theorem fits_us {H : Type} {P : Program} : ∀ (us : Us) (n m : Nat) (fs : List Field) (xs : List (DataW H)) (off : Nat), fs.length = xs.length →
    (∀ (i : Nat) f x, fs[i]? = some f → xs[i]? = some x → Ab.Fits P n f.type x) → fsAgree (agree P m) fs us off = true → ∃ x : us.T, wfUs us x ∧ limUs us x ∧ cellsDs xs = cellUs us x
  | .one u, n, m, fs, xs, off, hl, hx, ha => by
    match fs, xs, hl with
    | [], _, _ => simp [fsAgree] at ha
    | [f], [d], _ =>
      simp only [fsAgree, Bool.and_eq_true] at ha
      obtain ⟨x, g1, g2, g3⟩ := fits_u u n m f.type d (hx 0 f d rfl rfl) ha.2
      exact ⟨x, g1, g2, by simp [cellsDs, cellUs, g3]⟩
    | _ :: _ :: _, _, _ => simp [fsAgree] at ha
  | .cons u us, n, m, fs, xs, off, hl, hx, ha => by
    match fs, xs, hl with
    | [], _, _ => simp [fsAgree] at ha
    | [f], _, _ => simp [fsAgree] at ha
    | f :: g :: fs, d :: e :: xs, hl =>
      simp only [fsAgree, Bool.and_eq_true] at ha
      obtain ⟨x, g1, g2, g3⟩ := fits_u u n m f.type d (hx 0 f d rfl rfl) ha.1.2
      obtain ⟨y, k1, k2, k3⟩ := fits_us us n m (g :: fs) (e :: xs) _ (by simpa using hl) (fun i f x hi hxi => hx (i + 1) f x (by simpa using hi) (by simpa using hxi)) ha.2
      refine ⟨(x, y), ⟨g1, k1⟩, ⟨g2, k2⟩, ?_⟩
      rw [cellsDs, g3, k3]; rfl
end

theorem agree_agg {P : Program} {m : Nat} {t : TypeId} {u : U} (h : agree P m t u = true) : tyAgg P t = some u.isAgg := by
  cases m with
  | zero => simp [agree] at h
  | succ m =>
    simp only [agree, Bool.and_eq_true] at h
    have h := h.2
    unfold tyAgg
    cases hu : P.underlying t with
    | none => rw [hu] at h; cases h
    | some y =>
      rw [hu] at h
      cases y <;> cases u <;> first | rfl | (cases h; done)

theorem arg_pv {H : Type} {P : Program} {n m : Nat} {t : TypeId} {d : DataW H} {u : U} (hf : Ab.Fits P n t d) (ha : agree P m t u = true) : ∃ x : u.T, wfU u x ∧ limU u x ∧ argPV P t d = pvU u x := by
  obtain ⟨x, h1, h2, h3⟩ := fits_u u n m t d hf ha
  refine ⟨x, h1, h2, ?_⟩
  unfold argPV
  rw [agree_agg ha, h3]
  cases u <;> first | rfl | exact h1.elim

/-- every argument -/
def agrees (P : Program) (m : Nat) : List TypeId → List U → Bool
  | [], [] => true
  | t :: ts, u :: us => agree P m t u && agrees P m ts us
  | _, _ => false

def wfL : (l : List U) → LT l → Prop
  | [], _ => True
  | [u], x => wfU u x
  | u :: v :: r, x => wfU u x.1 ∧ wfL (v :: r) x.2

def limL : (l : List U) → LT l → Prop
  | [], _ => True
  | [u], x => limU u x
  | u :: v :: r, x => limU u x.1 ∧ limL (v :: r) x.2

theorem args_pv {H : Type} {P : Program} {n m : Nat} : ∀ (l : List U) {ts : List TypeId} {ds : List (DataW H)}, ts.length = ds.length → (∀ (j : Nat) t d, ts[j]? = some t → ds[j]? = some d → Ab.Fits P n t d) → agrees P m ts l = true →
    ∃ x : LT l, wfL l x ∧ limL l x ∧ List.zipWith (argPV P) ts ds = (splitT l x).map TV.pv ∧ (∀ a, a ∈ splitT l x → a.wf) ∧ ∀ (R : Type) (k : LT l → Option R), sealT l (splitT l x) k = k x
  | [], ts, ds, hl, hf, ha => by
    match ts, ds, hl with
    | [], [], _ => exact ⟨(), trivial, trivial, rfl, fun a h => (by cases h), fun R k => rfl⟩
    | _ :: _, _, _ => simp [agrees] at ha
  | [u], ts, ds, hl, hf, ha => by
    match ts, ds, hl with
    | [], _, _ => simp [agrees] at ha
    | [t], [d], _ =>
      simp only [agrees, Bool.and_eq_true, and_true] at ha
      obtain ⟨x, h1, h2, h3⟩ := arg_pv (hf 0 t d rfl rfl) ha
      refine ⟨x, h1, h2, by simp [splitT, h3, TV.pv], fun a h => ?_, fun R k => ?_⟩
      · simp only [splitT, List.mem_singleton] at h; subst h; simpa only [TV.wf] using h1
      · simp only [splitT, sealT, sealK, castK_refl]
    | _ :: _ :: _, _, _ => simp [agrees] at ha
  | u :: v :: r, ts, ds, hl, hf, ha => by
    match ts, ds, hl with
    | [], _, _ => simp [agrees] at ha
    | t :: ts, d :: ds, hl =>
      simp only [agrees, Bool.and_eq_true] at ha
      obtain ⟨x, h1, h2, h3⟩ := arg_pv (hf 0 t d rfl rfl) ha.1
      obtain ⟨y, g1, g2, g3, g4, g5⟩ := args_pv (v :: r) (ts := ts) (ds := ds) (by simpa using hl) (fun j t d ht hd => hf (j + 1) t d (by simpa using ht) (by simpa using hd)) ha.2
      refine ⟨(x, y), ⟨h1, g1⟩, ⟨h2, g2⟩, by simp [splitT, h3, g3, TV.pv], fun a h => ?_, fun R k => ?_⟩
      · simp only [splitT, List.mem_cons] at h
        rcases h with rfl | h
        · simpa only [TV.wf] using h1
        · exact g4 a (by simpa [splitT] using h)
      · simp only [splitT, sealT, sealK, castK_refl]
        exact g5 R fun y => k (x, y)

/-- what a law hands back -/
def lawX : XS := XS.one .ret (Shp.mk 1 0 [(0, .d .bool)] []).xe

/-- a law's face -/
def lawSig (f : FuncId) (A : List Pat) : Sig := ⟨f, A, [], 0, lawX⟩

/-- A law that answers true whatever it is given: its call. -/
theorem law_true {H : Type} {P : Program} {f : FuncId} {n m : Nat} {A : List Pat} {law : LT (lawSig f A).codes → Option Bool} {ts : List TypeId} {ds : List (DataW H)} (hE : FnOK P (lawSig f A) law)
    (hargs : ∀ x, (lawSig f A).args x = splitT (lawSig f A).codes x)
    (hl : ts.length = ds.length) (hf : ∀ (j : Nat) t d, ts[j]? = some t → ds[j]? = some d → Ab.Fits P n t d) (ha : agrees P m ts (lawSig f A).codes = true)
    (h : ∀ x, wfL (lawSig f A).codes x → limL (lawSig f A).codes x → law x = some true) : ACalls P f (List.zipWith (argPV P) ts ds) [] 0 (fun p _ _ => p = .val (.bool true)) := by
  obtain ⟨x, h1, h2, h3, h4, h5⟩ := args_pv (lawSig f A).codes hl hf ha
  have hcall := hE.calls x true (h x h1 h2) (fun t ht => h4 t (by rw [← hargs]; exact ht)) (fun o ho => by cases ho)
  rw [hargs, ← h3] at hcall
  intro w c vs g hpn0 hsz hvs
  refine (hcall w c vs g hpn0 hsz hvs).mono ?_
  rintro e w' ⟨v, p, H', c', rfl, ⟨rfl, rfl⟩, g', hv, hx⟩
  have hm : c.m = [] := List.eq_nil_of_length_eq_zero (by rw [g.len]; rfl)
  have hT : c.T = [] := Ab.noT g
  have hT' : c'.T = [] := Ab.noT g'
  refine ⟨v, _, _, [], c', rfl, rfl, g', hv, ?_⟩
  exact
      { os := hx.os, tape := hx.tape, output := hx.output, size := hx.size
        ids := fun b k h => by rw [hm] at h; simp at h
        new := hx.new
        blocks := fun k hk hkm _ => hx.blocks k hk hkm
        cells := fun k hk hkm off v _ hv => by rw [cell_of_block (hx.blocks k hk hkm)]; exact hv
        toks := fun i k j h => by rw [hT'] at h; simp at h
        stay := fun i k j _ h => by rw [hT'] at h; simp at h
        tlen := by rw [hT, hT']; exact Nat.le_refl _
        room := hx.room
        pn := hx.pn
        ok := hx.ok }

end Go.Tm

/- The typed machine, part 24: for the plain laws: loops that end, numbers that do not wrap. -/
set_option linter.unusedSimpArgs false
set_option linter.unusedVariables false
namespace Go.Tm
open Go.Ab

theorem loop_run {S X : Type} (F : S → Option (S ⊕ X)) (st : Nat → S) (res : Nat → X) (n : Nat) (last : F (st n) = some (.inr (res n)))
    (step : ∀ i, i < n → (F (st i) = some (.inl (st (i + 1))) ∧ res i = res (i + 1)) ∨ F (st i) = some (.inr (res i))) : loopC F (st 0) = some (res 0) := by
  have key : ∀ k i, i + k = n → loopC F (st i) = some (res i) := by
    intro k
    induction k with
    | zero => intro i h; rw [show i = n by omega, loopC_eq, last]; rfl
    | succ k ih =>
      intro i h
      rw [loopC_eq]
      rcases step i (by omega) with ⟨h1, h2⟩ | h1
      · rw [h1, h2]; exact ih (i + 1) (by omega)
      · rw [h1]; rfl
  exact key n 0 (by omega)

theorem loop_ind {S X : Type} (F : S → Option (S ⊕ X)) (n : Nat) (R : Nat → S → X → Prop) (step : ∀ i s x, i ≤ n → R i s x → F s = some (.inr x) ∨ (i < n ∧ ∃ s', F s = some (.inl s') ∧ R (i + 1) s' x)) {s : S} {x : X} (h : R 0 s x) :
    loopC F s = some x := by
  have key : ∀ k i s x, i + k = n → R i s x → loopC F s = some x := by
    intro k
    induction k with
    | zero =>
      intro i s x hi h
      rw [loopC_eq]
      rcases step i s x (by omega) h with h1 | ⟨h1, _⟩
      · rw [h1]; rfl
      · omega
    | succ k ih =>
      intro i s x hi h
      rw [loopC_eq]
      rcases step i s x (by omega) h with h1 | ⟨_, s', h1, h2⟩
      · rw [h1]; rfl
      · rw [h1]; exact ih (i + 1) s' x (by omega) h2
  exact key n 0 s x (by omega) h

theorem cond_bind {α β : Type} (c : Bool) (x y : Option α) (f : α → Option β) : (bif c then x else y).bind f = bif c then x.bind f else y.bind f := by cases c <;> rfl

theorem wrap_in (k : IntKind) {n : Int} (h : k.min ≤ n ∧ n ≤ k.max) : k.wrap n = n := by
  revert h
  cases k <;> simp only [IntKind.min, IntKind.max, IntKind.wrap, IntKind.bits, IntKind.signed] <;> simp <;> intro h1 h2 <;> (try split) <;> omega

theorem W64_in {n : Int} (h : -9223372036854775808 ≤ n ∧ n ≤ 9223372036854775807) : W64 n = n := wrap_in .i64 h
theorem WU64_in {n : Int} (h : 0 ≤ n ∧ n ≤ 18446744073709551615) : WU64 n = n := wrap_in .u64 h
theorem W32_in {n : Int} (h : -2147483648 ≤ n ∧ n ≤ 2147483647) : W32 n = n := wrap_in .i32 h
theorem WU32_in {n : Int} (h : 0 ≤ n ∧ n ≤ 4294967295) : WU32 n = n := wrap_in .u32 h
theorem WU16_in {n : Int} (h : 0 ≤ n ∧ n ≤ 65535) : WU16 n = n := wrap_in .u16 h
theorem WU8_in {n : Int} (h : 0 ≤ n ∧ n ≤ 255) : WU8 n = n := wrap_in .u8 h

theorem ltI_t {a b : Int} (h : a < b) : ltI a b = true := by simpa [ltI] using h
theorem ltI_f {a b : Int} (h : ¬ a < b) : ltI a b = false := by simpa [ltI] using h
theorem leI_t {a b : Int} (h : a ≤ b) : leI a b = true := by simpa [leI] using h
theorem leI_f {a b : Int} (h : ¬ a ≤ b) : leI a b = false := by simpa [leI] using h
theorem eqI_t {a b : Int} (h : a = b) : eqI a b = true := by simpa [eqI] using h
theorem eqI_f {a b : Int} (h : ¬ a = b) : eqI a b = false := by simpa [eqI] using h
theorem neI_t {a b : Int} (h : ¬ a = b) : neI a b = true := by simpa [neI] using h
theorem neI_f {a b : Int} (h : a = b) : neI a b = false := by simpa [neI] using h
theorem inI_t {i : Int} {n : Nat} (h : 0 ≤ i ∧ i < n) : inI i n = true := by simp [inI, leI, ltI]; omega
theorem inI_f {i : Int} {n : Nat} (h : ¬ (0 ≤ i ∧ i < n)) : inI i n = false := by
  cases hc : inI i n with
  | false => rfl
  | true => simp [inI, leI, ltI] at hc; omega

/-- a loop of at most n rounds that keeps what is so -/
theorem loop_inv {S X : Type} (F : S → Option (S ⊕ X)) (n : Nat) (I : Nat → S → Prop) (Q : X → Prop) (last : ∀ s, I n s → ∃ x, F s = some (.inr x) ∧ Q x)
    (step : ∀ i s, i < n → I i s → (∃ s', F s = some (.inl s') ∧ I (i + 1) s') ∨ (∃ x, F s = some (.inr x) ∧ Q x)) {s : S} (h : I 0 s) : ∃ x, loopC F s = some x ∧ Q x := by
  have key : ∀ k i s, i + k = n → I i s → ∃ x, loopC F s = some x ∧ Q x := by
    intro k
    induction k with
    | zero =>
      intro i s hi h
      rw [show i = n by omega] at h
      obtain ⟨x, h1, h2⟩ := last s h
      exact ⟨x, by rw [loopC_eq, h1]; rfl, h2⟩
    | succ k ih =>
      intro i s hi h
      rcases step i s (by omega) h with ⟨s', h1, h2⟩ | ⟨x, h1, h2⟩
      · obtain ⟨x, g1, g2⟩ := ih (i + 1) s' (by omega) h2
        exact ⟨x, by rw [loopC_eq, h1]; exact g1, g2⟩
      · exact ⟨x, by rw [loopC_eq, h1]; rfl, h2⟩
  exact key n 0 s (by omega) h

theorem ble_self (n : Nat) : Nat.ble n n = true := Nat.ble_eq.mpr (Nat.le_refl n)
theorem beq_self (n : Nat) : Nat.beq n n = true := Nat.beq_refl n
theorem beq_t {n m : Nat} (h : n = m) : Nat.beq n m = true := by subst h; exact Nat.beq_refl n
theorem ble_t {n m : Nat} (h : n ≤ m) : Nat.ble n m = true := Nat.ble_eq.mpr h

theorem win_all {R α : Type} (l : List α) (n : Nat) (h : n = l.length) (k : List α → Option R) : winK l 0 n k = k l := by
  subst h
  unfold winK
  have : addN 0 (List.length l) = List.length l := rfl
  rw [this, ble_self]
  simp [subN]

theorem win_at {R α : Type} (l : List α) (i n : Nat) (h : i + n ≤ l.length) (k : List α → Option R) : winK l i n k = k ((l.drop i).take n) := by
  unfold winK
  rw [addN_eq, ble_t h]; rfl

theorem cpy_all {α : Type} (l m : List α) : cpyL l 0 l.length m = m.take l.length ++ l.drop m.length := by
  unfold cpyL
  rw [List.take_zero, List.nil_append, Nat.zero_add]
  rcases Nat.le_total m.length l.length with h | h
  · rw [Nat.min_eq_left h, List.take_length, List.take_of_length_le h]
  · rw [Nat.min_eq_right h, List.drop_length, List.drop_eq_nil_of_le h]

theorem short_ok {R : Type} {n : Nat} (h : n ≤ 9223372036854775807) (k : Option R) : shortK n k = k := by
  unfold shortK; rw [Nat.ble_eq.mpr h]; rfl

theorem app_ok {R : Type} {n m nb : Nat} (h : (n + m) * nb ≤ 140737488355328) (k : Unit → Option R) : appG n m nb k = k () := by
  unfold appG; rw [Nat.ble_eq.mpr h]; rfl

theorem cat_ok {R : Type} {a b : List Int} (h : a.length + b.length ≤ 9223372036854775807) (k : Unit → Option R) : catG a b k = k () := by
  unfold catG; rw [Nat.ble_eq.mpr h]; rfl

theorem make_ok {R : Type} {n : Int} {nb : Nat} (h0 : 0 ≤ n) (h : nb * n ≤ 281474976710656) (k : Option R) : makeG n nb k = k := by
  unfold makeG; rw [leI_t h0, leI_t h]; rfl

theorem idx_at {α : Type} {l : List α} {i : Nat} : idxI l (i : Int) = l[i]? := by
  unfold idxI; rw [leI_t (Int.natCast_nonneg i)]; simp

theorem idx_in {α : Type} {l : List α} {i : Nat} (h : i < l.length) : idxI l (i : Int) = some l[i] := by
  rw [idx_at, List.getElem?_eq_getElem h]

theorem sub_ok {l h : Int} {n : Nat} (hh : 0 ≤ l ∧ l ≤ h ∧ h ≤ n) : subOk l h n = true := by
  unfold subOk; rw [leI_t hh.1, leI_t hh.2.1, leI_t hh.2.2]; rfl

theorem sub_all (n : Nat) : subOk 0 (n : Int) n = true := sub_ok (by omega)

theorem subL_all {α : Type} (l : List α) : subL l 0 (l.length : Int) = l := by
  simp [subL]

theorem eqS_t {a b : List Int} (h : a = b) : eqS a b = true := decide_eq_true h
theorem eqS_f {a b : List Int} (h : ¬ a = b) : eqS a b = false := decide_eq_false h

end Go.Tm
