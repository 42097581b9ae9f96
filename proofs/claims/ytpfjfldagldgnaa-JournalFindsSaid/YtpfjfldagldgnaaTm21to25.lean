import Derived.Test.YtpfjfldagldgnaaTm16to20
import Derived.Test.YtpfjfldagldgnaaAb10to14
set_option linter.unusedSimpArgs false
set_option linter.unusedVariables false
namespace Go.Tm
open Go.Ab
theorem z1bi {R : Type} {S : Sig} {args : List TV} {Hc : List TOb} {la lb : List TV} {k : LT S.codes → Option R} {r : R} (hwa : TV.wfs args) (hwH : ∀ o, o ∈ Hc → o.wf) (ha : z3w S.A args = some la) (hb : z9y S.hp Hc = some lb)
   (h : (sealT S.codes (la ++ lb) fun x => zlq (S.lens (z2n S.codes x)) (zcn S.A args ++ zld S.hp Hc) (k x)) = some r) :
   ∃ x, k x = some r ∧ FitsL args (S.args x) ∧ (∀ o, o ∈ S.heap x → o.wf) ∧ (S.heap x).length = Hc.length ∧ ∀ (i : Nat) o o', Hc[i]? = some o → (S.heap x)[i]? = some o' → FitsO o o' := by
 have la_len := zfb _ _ ha
 have hlw : ∀ t, t ∈ la ++ lb → t.wf := fun t ht => by
   rcases List.mem_append.1 ht with ht | ht
   · exact zex _ _ hwa ha t ht
   · exact z10j _ _ hwH hb t ht
 obtain ⟨x, h1, h2, h3, h4⟩ := zvu S.codes _ hlw h
 obtain ⟨h1, hg⟩ := zsc h1
 obtain ⟨hg1, hg2⟩ := hg.split
 refine ⟨x, h1, ?_⟩
 unfold Sig.args Sig.heap
 generalize hvs : z2n S.codes x = vs at h3 h4 hg1 hg2
 have sld : SldL (la ++ lb) vs := ⟨h3.symm, h4⟩
 obtain ⟨s1, s2⟩ := sld.split
 have hnS : (z0b S.A).length = la.length := la_len.symm
 obtain ⟨ts', f1, f2⟩ := zhk (lens := S.lens vs) S.A args (vs.drop la.length) hwa ha s1 hg1
 rw [List.take_append_drop] at f1
 obtain ⟨f3, f4⟩ := z10r (lens := S.lens vs) (ss := vs.drop la.length) [] hwH hb s2 hg2
 rw [List.append_nil] at f3 f4
 rw [f1, hnS]
 refine ⟨f2, fun o ho => ?_, f3, f4⟩
 obtain ⟨i, hi⟩ := List.mem_iff_getElem?.1 ho
 have hlt : i < Hc.length := by rw [← f3]; exact (List.getElem?_eq_some_iff.1 hi).1
 have := f4 i _ o (List.getElem?_eq_getElem hlt) hi
 generalize Hc[i] = o0 at this
 cases o <;> cases o0 <;> first | exact this.elim | trivial | exact this.2.1
theorem z1ip {w : World} {c : Cx} {Hc H' : List TOb} (g : Ab.Good w c (Hc.map TOb.flat) []) (h3 : H'.length = Hc.length) (h4 : ∀ (i : Nat) o o', Hc[i]? = some o → H'[i]? = some o' → FitsO o o') : Ab.Good w c (H'.map TOb.flat) [] := by
 refine Good.le g (by simp [h3]) fun i o1 o2 e1 e2 => ?_
 simp only [List.getElem?_map] at e1 e2
 cases e3 : Hc[i]? with
 | none => rw [e3] at e1; cases e1
 | some q =>
   cases e4 : H'[i]? with
   | none => rw [e4] at e2; cases e2
   | some q' =>
     rw [e3] at e1; rw [e4] at e2
     simp at e1 e2
     subst e1; subst e2
     exact z1a9 (h4 i q q' e3 e4)
def viewA (H : List TOb) (args : List TV) : List TV := bif zc1 args then args else mvs (viewO 6 H) args
def noObs : List TOb → Bool
 | [] => true
 | _ => false
def entQ (S : Sig) (fn : LT S.codes → Option S.X.T) : Ent where
 f := S.f
 ok := fun H args => fitL S.A (viewA H args)
 run := fun H args k => match z3w S.A (viewA H args), z9y S.hp [] with
   | some a, some b => bif Nat.beq S.pn 0 then sealT S.codes (a ++ b) fun x => zlq (S.lens (z2n S.codes x)) (zcn S.A (viewA H args) ++ zld S.hp [])
       ((fn x).bind fun y => S.X.open' y fun _ τ => bif noObs τ.H && ((resTV τ).flatB || (zc1 args && (resTV τ).pureB)) then k (resTV τ) else none) else none
   | _, _ => none
theorem z1mv {w w' : World} {c c' : Cx} {H : List AObj} (g : Ab.Good w c H []) (x : ExtP 0 w (z8w w c 0) w' c') (a : Addr) (n : Nat) (h : Foot w' c' a n) : Foot w' c a n := by
 rcases h with h | ⟨h1, h2, h3, h4, h5⟩
 · exact .inl h
 · rw [x.ok] at h5
   by_cases hlt : a.block < w.heap.size
   · obtain ⟨h6, h7, h8⟩ := h5 hlt
     exact .inr ⟨h1, h2, h6, h7, h8⟩
   · exact .inr ⟨h1, h2, fun h => hlt (g.mlt h), fun i j h => absurd (g.tlt h) hlt, g.okn _ _ (Nat.le_of_not_lt hlt)⟩
theorem z1fz {w w' : World} {c c0 c' : Cx} {H : List AObj} (g : Ab.Good w c H []) (hm : c0.m = []) (x : ExtP 0 w c0 w' c') : Ab.Good w' c H [] ∧ Ext w c w' c :=
 z14n g x.os x.tape x.output x.size (fun b hb => x.blocks b hb (by rw [hm]; simp))
theorem z0j {P : Program} {S : Sig} {fn : LT S.codes → Option S.X.T} (h : FnOK P S fn) : EntOK P (entQ S fn) := by
 intro R H args k r hH hwa hr
 simp only [entQ] at hr ⊢
 split at hr
 · rename_i la lb hla hlb
   cases hpn : Nat.beq S.pn 0 with
   | false => rw [hpn] at hr; cases hr
   | true =>
     rw [hpn] at hr
     simp only [cond_true] at hr
     have hp0 := Nat.eq_of_beq_eq_true hpn
     have hwa' := z3u.2 hwa
     have hwv : TV.wfs (viewA H args) := by
       unfold viewA
       cases zc1 args with
       | true => exact hwa'
       | false => exact (zp7 (z18r hH 6) args hwa').1
     obtain ⟨x, h1, h2, h3, h4, h5⟩ := z1bi hwv (by intro o ho; cases ho) hla hlb hr
     have hheap : S.heap x = [] := List.eq_nil_of_length_eq_zero h4
     rw [Option.bind_eq_some_iff] at h1
     obtain ⟨y, hy, hk⟩ := h1
     rw [h.open'] at hk
     have hwx := z3u.1 h2.wf
     obtain ⟨r1, r2⟩ := h.ret x y hy hwx h3
     cases hc : noObs (S.X.at' y).2.H && ((resTV (S.X.at' y).2).flatB || (zc1 args && (resTV (S.X.at' y).2).pureB)) with
     | false => rw [hc] at hk; cases hk
     | true =>
       rw [hc] at hk
       simp only [cond_true] at hk
       simp only [Bool.and_eq_true, Bool.or_eq_true] at hc
       obtain ⟨hn, hres⟩ := hc
       refine ⟨_, hk, r1, .inr ⟨h.can, fun Y w c vs hY g hsz hv => ?_⟩⟩
       have hcall := h.calls x y hy hwx h3
       rw [hheap, hp0] at hcall
       have hlen : vs.size = (((S.args x).map TV.pv)).length := by
         rw [List.length_map, h2.len, hsz]
         unfold viewA
         cases zc1 args with
         | true => rfl
         | false => simp [z12k]
       cases hpu : zc1 args with
       | true =>
         have hva : viewA H args = args := by unfold viewA; rw [hpu]; rfl
         have hp1 := (zfo args hwa' hpu).1
         have g0 : Ab.Good w (z8w w c 0) [] [] := z1j7 g 0
         have hv0 : VRs w (z8w w c 0) ((S.args x).map TV.pv) (fun i => vs[i]?) := by
           have h6 := h2.pvs
           rw [hva, z4n, z4n] at h6
           rw [z4n] at hp1
           exact zbd ⟨_, _, g0⟩ h6 (VRs.transfer (z1jb 0) _ hp1 hv)
         refine (hcall w _ vs g0 rfl hlen hv0).mono ?_
         rintro e w' ⟨v, p, H', c', rfl, ⟨rfl, rfl⟩, g', hv', x'⟩
         obtain ⟨g1, x1⟩ := z1fz g rfl x'
         refine ⟨v, rfl, ?_, g1, x1⟩
         rcases hres with hf | ⟨_, hf⟩
         · exact Fl.to _ (zvd _ r1 hf).1 hv'
         · exact VR.transfer (z1mv g x') _ (z4r _ r1 hf).1 hv'
       | false =>
         have hva : viewA H args = mvs (viewO 6 H) args := by unfold viewA; rw [hpu]; rfl
         have M := z1jm hY g hH 6
         have hv0 : VRs w zf5 ((S.args x).map TV.pv) (fun i => vs[i]?) := by
           have h6 := h2.pvs
           rw [hva, z4n (S.args x)] at h6
           rw [← z4n] at hv
           exact zbd ⟨_, _, z1f5 g⟩ h6 ((zrg M args hwa').2.1 _ hv)
         refine (hcall w _ vs (z1f5 g) rfl hlen hv0).mono ?_
         rintro e w' ⟨v, p, H', c', rfl, ⟨rfl, rfl⟩, g', hv', x'⟩
         obtain ⟨g1, x1⟩ := z1fz g rfl x'
         refine ⟨v, rfl, ?_, g1, x1⟩
         rcases hres with hf | ⟨hf, _⟩
         · exact Fl.to _ (zvd _ r1 hf).1 hv'
         · rw [hpu] at hf; cases hf
 · cases hr
def nameM : List HPat → List (Option Nat) → Nat → List Nat × List HPat
 | h :: hs, some b :: ρ, n => (b :: (nameM hs ρ n).1, (nameM hs ρ n).2)
 | h :: hs, none :: ρ, n => (n :: (nameM hs ρ (n + 1)).1, h :: (nameM hs ρ (n + 1)).2)
 | _, _, _ => ([], [])
def zez (S : Sig) (H : List TOb) (args : List TV) : List (Option Nat) := z1di S.hp (z1hn H S.hp 0 (bindL S.A args (S.hp.map fun _ => none)))
def frzOf (S : Sig) (H : List TOb) (args : List TV) (ρ : List (Option Nat)) : List Nat := frzL S.A args ++ frzHs H S.hp ρ
def callP {R : Type} (S : Sig) (fn : LT S.codes → Option S.X.T) (σ1 : TS) (ρ : List Nat) (args : List TV) (k : TS → TV → Option R) : Option R :=
 match z3w S.A (mvs (handF ρ) args), z9y S.hp (newH (handF ρ) σ1.H S.hp (ρ.map some)) with
 | some a, some b => bif Nat.beq (List.length S.hp) (List.length ρ) && zsm (List.length σ1.H) σ1.p S.pn ρ then
     sealT S.codes (a ++ b) fun x => zlq (S.lens (z2n S.codes x)) (zcn S.A (mvs (handF ρ) args) ++ zld S.hp (newH (handF ρ) σ1.H S.hp (ρ.map some)))
       ((fn x).bind fun y => S.X.open' y fun _ τ => bif Nat.ble S.pn (List.length τ.H) then k (backS σ1 S.pn ρ τ.H) ((resTV τ).mv (backF (List.length σ1.H) S.pn ρ)) else none)
   else none
 | _, _ => none
def prepP {R : Type} (σ : TS) (fz : List Nat) (ρr : List (Option Nat)) (hs : List HPat) (args : List TV) (k : TS → List TV → Option R) : Option R :=
 bif zci σ.p ρr && Nat.beq (List.length hs) (List.length ρr) then k (stRe σ (zay σ.p σ.H ρr fz) hs ρr) (mvs (zay σ.p σ.H ρr fz) args) else none
def entP (S : Sig) (fn : LT S.codes → Option S.X.T) : EEnt where
 f := S.f
 ok := fun σ args => fitL S.A args && fitHs σ.H S.hp (zez S σ.H args)
 run := fun σ args k =>
   prepP σ (frzOf S σ.H args (zez S σ.H args)) (keepR (List.length σ.H) σ.p (frzOf S σ.H args (zez S σ.H args)) (zez S σ.H args) ++ (nameM S.hp (zez S σ.H args) (List.length σ.H)).2.map fun _ => none)
     (List.replicate (List.length σ.H) .gone ++ (nameM S.hp (zez S σ.H args) (List.length σ.H)).2) args fun σ1 args1 =>
       callP S fn σ1 (nameM S.hp (zez S σ.H args) (List.length σ.H)).1 args1 k
theorem z1kl {R : Type} {P : Program} {S : Sig} {fn : LT S.codes → Option S.X.T} (h : FnOK P S fn) {σ : TS} {ρ : List Nat} {args : List TV} {k : TS → TV → Option R} {r : R} (hw : σ.wf) (hwa : TV.wfs args) (hr : callP S fn σ ρ args k = some r) : EDoes P S.f σ args k r := by
 unfold callP at hr
 split at hr
 · rename_i la lb hla hlb
   cases hc : Nat.beq (List.length S.hp) (List.length ρ) && zsm (List.length σ.H) σ.p S.pn ρ with
   | false => rw [hc] at hr; cases hr
   | true =>
     rw [hc] at hr
     simp only [cond_true] at hr
     simp only [Bool.and_eq_true] at hc
     obtain ⟨hc1, hc2⟩ := hc
     have hl := Nat.eq_of_beq_eq_true hc1
     have hwv : TV.wfs (mvs (handF ρ) args) := (zp7 (fun b o h => absurd h (zrl ρ b o)) args hwa).1
     have hwH : ∀ o, o ∈ newH (handF ρ) σ.H S.hp (ρ.map some) → o.wf := z1ax (fun b o h => absurd h (zrl ρ b o)) hw.H
     obtain ⟨x, h1, h2, h3, h4, h5⟩ := z1bi hwv hwH hla hlb hr
     rw [Option.bind_eq_some_iff] at h1
     obtain ⟨y, hy, hk⟩ := h1
     rw [h.open'] at hk
     have hwx := z3u.1 h2.wf
     obtain ⟨r1, r2⟩ := h.ret x y hy hwx h3
     cases hpn : Nat.ble S.pn (List.length (S.X.at' y).2.H) with
     | false => rw [hpn] at hk; cases hk
     | true =>
       rw [hpn] at hk
       simp only [cond_true] at hk
       have hw1 := z1qb hw S.pn ρ r2
       have hw2 := (mv_wf (fun b o h => absurd h (zxd (List.length σ.H) S.pn ρ b o)) _ r1).1
       refine ⟨h.can, ⟨_, _, hk, hw1, hw2⟩, fun c w a vs hrel hsz hv => ?_⟩
       have g := hrel.good
       have hh : Hand c (σ.H.map TOb.flat).length S.pn ρ := by rw [List.length_map]; exact z16k hc2 hrel.1
       have g0 := z1ip (z1n0 hw.H g hh hl) h4 h5
       have M := z1af g S.pn ρ
       have hv0 : VRs w (z2v w c S.pn ρ) ((S.args x).map TV.pv) (fun i => vs[i]?) := by
         have h6 := h2.pvs
         rw [z4n (S.args x)] at h6
         rw [← z4n] at hv
         exact zbd ⟨_, _, g0⟩ h6 ((zrg M args hwa).2.1 _ hv)
       refine ((h.calls x y hy hwx h3) w _ vs g0 rfl (by rw [List.length_map, h2.len, hsz, z12k, List.length_map]) hv0).mono ?_
       rintro e w' ⟨v, p, H', c', rfl, ⟨rfl, rfl⟩, g', hv', x'⟩
       obtain ⟨c3, b1, b2, b3⟩ := z1p2 hrel hw hc2 r2 g' x' (Nat.le_of_ble_eq_true hpn)
       exact ⟨v, _, _, c3, rfl, hk, hw1, hw2, rfl, b1, b3 _ _ r1 hv', b2⟩
 · cases hr
theorem z1a {P : Program} {S : Sig} {fn : LT S.codes → Option S.X.T} (h : FnOK P S fn) : zxy P (entP S fn) := by
 intro R σ args k r hw hwa hr
 simp only [entP, prepP] at hr ⊢
 generalize hρr : (keepR (List.length σ.H) σ.p (frzOf S σ.H args (zez S σ.H args)) (zez S σ.H args) ++ (nameM S.hp (zez S σ.H args) (List.length σ.H)).2.map fun _ => none) = ρr at hr
 generalize hhs : (List.replicate (List.length σ.H) HPat.gone ++ (nameM S.hp (zez S σ.H args) (List.length σ.H)).2) = hs at hr
 generalize (nameM S.hp (zez S σ.H args) (List.length σ.H)).1 = ρ at hr
 generalize frzOf S σ.H args (zez S σ.H args) = fz at hr
 cases hc : zci σ.p ρr && Nat.beq (List.length hs) (List.length ρr) with
 | false => rw [hc] at hr; cases hr
 | true =>
   rw [hc] at hr
   simp only [cond_true] at hr
   simp only [Bool.and_eq_true] at hc
   have hwa' := z3u.2 hwa
   have hd := z1kl h (z18m hw) (zp7 (z16t hw.H) args hwa').1 hr
   refine ⟨hd.can, hd.wf, fun c w a vs hrel hsz hv => ?_⟩
   obtain ⟨q1, q2⟩ := z1hl hrel hw hc.1 fz (Nat.eq_of_beq_eq_true hc.2)
   have M := z1cm hrel.good hw.H hrel.1 (ρ := ρr) fz
   have hv1 : VRs w (reCx c ρr) ((mvs (zay σ.p σ.H ρr fz) args).map TV.pv) (fun i => vs[i]?) := by
     rw [← z4n] at hv ⊢
     exact (zrg M args hwa').2.1 _ hv
   refine (hd.calls _ w a vs q1 (by rw [hsz, z12k, List.length_map]) hv1).mono ?_
   rintro e w' ⟨v, σ', t, c', e1, e2, e3, e4, e5, e6, e7, e8⟩
   exact ⟨v, σ', t, c', e1, e2, e3, e4, e5, e6, e7, ExtP.trans q2 e8⟩
def newN (n : Nat) : Nat → List Nat
 | 0 => []
 | q + 1 => n :: newN (n + 1) q
theorem zjq : ∀ (q n : Nat) {i b : Nat}, (newN n q)[i]? = some b → b = n + i ∧ i < q
 | 0, _, i, b, h => by simp [newN] at h
 | q + 1, n, 0, b, h => by simp [newN] at h; omega
 | q + 1, n, i + 1, b, h => by
   have := zjq q (n + 1) (i := i) (by simpa [newN] using h)
   omega
theorem z1k8 : ∀ (q n : Nat) {i : Nat}, i < q → (newN n q)[i]? = some (n + i)
 | 0, _, i, h => by omega
 | q + 1, n, 0, h => by simp [newN]
 | q + 1, n, i + 1, h => by
   have := z1k8 q (n + 1) (i := i) (by omega)
   simp only [newN, List.getElem?_cons_succ, this]
   congr 1; omega
mutual
theorem VR_pn {w : World} {c : Cx} (n : Nat) : ∀ (p : PV) {v : Value}, VR w c p v → VR w { c with pn := n } p v
 | .val _, _, h => by simp only [VR] at h ⊢; exact h
 | .ptr b off, _, h => by simp only [VR] at h ⊢; exact h
 | .fz cs, _, h => by
   simp only [VR] at h ⊢
   obtain ⟨a, h1, h2, hl, h3⟩ := h
   exact ⟨a, h1, h2, hl, zxn n cs h3⟩
 | .sl b off len sz, _, h => by simp only [VR] at h ⊢; exact h
 | .tr len cs t, _, h => by
   simp only [VR] at h ⊢
   rcases h with h | ⟨a, cap, h1, hc, h2, h4, hl, h3⟩
   · exact .inl h
   · refine .inr ⟨a, cap, h1, hc, h2, ?_, hl, zxn n cs h3⟩
     cases t <;> exact h4
 | .fn f caps, _, h => by
   simp only [VR] at h ⊢
   obtain ⟨cv, h1, h2, h3⟩ := h
   exact ⟨cv, h1, h2, zxn n caps h3⟩
 | .agg cs, _, h => by
   simp only [VR] at h ⊢
   obtain ⟨cv, h1, h2, hl, h3⟩ := h
   exact ⟨cv, h1, h2, hl, zxn n cs h3⟩
 | .tup cs, _, h => by
   simp only [VR] at h ⊢
   obtain ⟨cv, h1, h2, h3⟩ := h
   exact ⟨cv, h1, h2, zxn n cs h3⟩
 | .ifc t p, _, h => by
   simp only [VR] at h ⊢
   obtain ⟨v, h1, h2⟩ := h
   exact ⟨v, h1, VR_pn n p h2⟩
 | .one, _, h => by simp only [VR] at h ⊢; exact h
 | .dead, _, _ => by simp only [VR]
theorem zxn {w : World} {c : Cx} (n : Nat) : ∀ (ps : List PV) {f : Nat → Option Value}, VRs w c ps f → VRs w { c with pn := n } ps f
 | [], _, _ => by simp only [VRs]
 | p :: ps, f, h => by
   simp only [VRs] at h ⊢
   obtain ⟨⟨v, h1, h2⟩, h3⟩ := h
   exact ⟨⟨v, h1, VR_pn n p h2⟩, zxn n ps h3⟩
end
theorem z1li {w w' : World} {c c' : Cx} {H' : List AObj} {pn q n : Nat} {ρ : List Nat} (hpl : pn = ρ.length) (hgone : ∀ j, j < q → c.m[n + j]? = some none) (g' : Ab.Good w' c' H' []) (x : ExtP pn w (z2v w c pn ρ) w' c') :
   Ab.Good w' { c' with pn := (ρ ++ newN n q).length } H' [] ∧ ExtP (ρ ++ newN n q).length w (z2v w c (ρ ++ newN n q).length (ρ ++ newN n q)) w' { c' with pn := (ρ ++ newN n q).length } := by
 have hxpn : c'.pn = pn := x.pn
 have hm : ∀ k : Nat, some k ∈ (z2v w c (ρ ++ newN n q).length (ρ ++ newN n q)).m ↔ some k ∈ (z2v w c pn ρ).m := fun k => by
   simp only [z2v, List.map_append, List.mem_append]
   refine ⟨fun h => h.elim id fun h => ?_, .inl⟩
   rw [List.mem_map] at h
   obtain ⟨b, hb, h2⟩ := h
   obtain ⟨i, hi⟩ := List.mem_iff_getElem?.1 hb
   obtain ⟨rfl, hq⟩ := zjq q n hi
   rw [hgone i hq] at h2
   cases h2
 have hok : (z2v w c (ρ ++ newN n q).length (ρ ++ newN n q)).ok = (z2v w c pn ρ).ok := by
   funext k e
   simp only [z2v]
   refine propext ⟨fun h hk => ?_, fun h hk => ?_⟩
   · rcases h hk with ⟨j, b, h1, h2, _⟩ | h
     · have := (List.getElem?_eq_some_iff.1 h2).1; omega
     · exact .inr h
   · rcases h hk with ⟨j, b, h1, h2, _⟩ | h
     · have := (List.getElem?_eq_some_iff.1 h2).1; omega
     · exact .inr h
 refine ⟨{ len := g'.len, inj := g'.inj, obj := fun b o h => ?_, tl := g'.tl, tal := g'.tal, tdead := g'.tdead, tok := g'.tok, tinj := g'.tinj, okn := g'.okn, okm := g'.okm, okt := g'.okt, oko := fun b k hb h e => g'.oko b k ?_ h e, gl := g'.gl.sub (fun _ h => h) fun i k j h => ⟨i, h⟩ }, ?_⟩
 · have ho := g'.obj b o h
   cases o with
   | row cs e =>
     rcases ho with ⟨e1, e2⟩ | ⟨k, vs', fr, e1, e2, e3, e4, e5, e6⟩
     · exact .inl ⟨e1, e2⟩
     · exact .inr ⟨k, vs', fr, e1, e2, e3, e4, e5, zxn _ _ e6⟩
   | raw ob => exact ho
   | gone => exact ho
 · have : (ρ ++ newN n q).length ≤ b := hb
   rw [List.length_append] at this
   omega
 · refine ⟨x.os, x.tape, x.output, x.size, fun k hk => (x.new k hk).imp (hm k).2 id, fun k hk hno => x.blocks k hk fun h => hno ((hm k).2 h), x.ok.trans hok.symm, rfl, fun b k hb h => ?_, x.room⟩
   obtain ⟨b', h1, h2⟩ := zpw h
   by_cases hbl : b < ρ.length
   · rw [List.getElem?_append_left hbl] at h1
     exact x.pin b k (by omega) (zev h1 h2)
   · rw [List.getElem?_append_right (by omega)] at h1
     obtain ⟨rfl, hq⟩ := zjq q n h1
     rw [hgone _ hq] at h2
     cases h2
def allN : List (Option Nat) → Option (List Nat)
 | [] => some []
 | some b :: r => match allN r with
   | some l => some (b :: l)
   | none => none
 | none :: _ => none
def zwm : List Nat → List TOb → Option (List (Nat × TypeId × Ob))
 | [], [] => some []
 | b :: ρ, .ob e o :: H => match zwm ρ H with
   | some l => some ((b, e, o) :: l)
   | none => none
 | _, _ => none
theorem z19x : ∀ {ρ : List Nat} {H : List TOb} {us : List (Nat × TypeId × Ob)}, zwm ρ H = some us → us.map (·.1) = ρ ∧ ρ.length = H.length ∧ ∀ (j : Nat) u, us[j]? = some u → H[j]? = some (.ob u.2.1 u.2.2)
 | [], [], us, h => by cases h; exact ⟨rfl, rfl, fun j u hu => by simp at hu⟩
 | b :: ρ, .ob e o :: H, us, h => by
   simp only [zwm] at h
   split at h
   · rename_i l hl
     cases h
     obtain ⟨h1, h2, h3⟩ := z19x hl
     refine ⟨by simp [h1], by simp [h2], fun j u hu => ?_⟩
     cases j with
     | zero => simp at hu; subst hu; rfl
     | succ j => simpa using h3 j u (by simpa using hu)
   · cases h
 | [], _ :: _, _, h => by simp [zwm] at h
 | _ :: _, [], _, h => by simp [zwm] at h
 | _ :: _, .gone :: _, _, h => by simp [zwm] at h
def pinF (ρ : List Nat) (pn : Nat) (j : Nat) : Fate := bif Nat.blt j pn then .to (getN ρ j) else .gone
theorem z18g (ρ : List Nat) (pn b : Nat) (o : Ob) : pinF ρ pn b ≠ .fz o := by
 unfold pinF
 cases Nat.blt b pn <;> simp
def callD {R : Type} (S : Sig) (fn : LT S.codes → Option S.X.T) (σ : TS) (ρ : List Nat) (args : List TV) (k : TV → List (Nat × TypeId × Ob) → Nat → List Nat → Option R) : Option R :=
 match z3w S.A (mvs (handF ρ) args), z9y S.hp (newH (handF ρ) σ.H S.hp (ρ.map some)) with
 | some a, some b => bif Nat.beq (List.length S.hp) (List.length ρ) && Nat.beq S.pn (List.length ρ) && zsm (List.length σ.H) σ.p S.pn ρ then
     sealT S.codes (a ++ b) fun x => zlq (S.lens (z2n S.codes x)) (zcn S.A (mvs (handF ρ) args) ++ zld S.hp (newH (handF ρ) σ.H S.hp (ρ.map some)))
       ((fn x).bind fun y => S.X.open' y fun _ τ => match zwm (ρ ++ newN (List.length σ.H) (List.length τ.H - List.length ρ)) (τ.H.map (TOb.mv (pinF (ρ ++ newN (List.length σ.H) (List.length τ.H - List.length ρ)) (List.length τ.H)))) with
         | some us => k ((resTV τ).mv (pinF (ρ ++ newN (List.length σ.H) (List.length τ.H - List.length ρ)) (List.length τ.H))) us (List.length τ.H - List.length ρ) []
         | none => none)
   else none
 | _, _ => none
def entD (S : Sig) (fn : LT S.codes → Option S.X.T) : DEnt where
 f := S.f
 ok := fun σ args => fitL S.A args
 run := fun σ args k => match allN (zez S σ.H args) with
   | some ρ => callD S fn σ ρ args k
   | none => none
theorem z1ft : ∀ (us : List (Nat × List PV × TypeId)) {H : List AObj} {j b : Nat} {cs : List PV} {e : TypeId}, (∀ i j b : Nat, (us.map (·.1))[i]? = some b → (us.map (·.1))[j]? = some b → i = j) → us[j]? = some (b, cs, e) → b < H.length → (D.setAll us H)[b]? = some (.row cs e)
 | [], _, j, _, _, _, _, h, _ => by simp at h
 | u :: us, H, 0, b, cs, e, hinj, h, hl => by
   simp only [List.getElem?_cons_zero, Option.some.injEq] at h
   subst h
   show (D.setAll us (H.set b _))[b]? = _
   rw [D.setAll_ne us fun hm => ?_]
   · rw [List.getElem?_set_self hl]
   · obtain ⟨i, hi⟩ := List.mem_iff_getElem?.1 hm
     have := hinj 0 (i + 1) b (by simp) (by simpa using hi)
     omega
 | u :: us, H, j + 1, b, cs, e, hinj, h, hl => by
   show (D.setAll us (H.set u.1 _))[b]? = _
   exact z1ft us (fun i j b h1 h2 => by
     have := hinj (i + 1) (j + 1) b (by simpa using h1) (by simpa using h2)
     omega) (by simpa using h) (by simpa using hl)
theorem z1qx {P : Program} {S : Sig} {fn : LT S.codes → Option S.X.T} (h : FnOK P S fn) : zy2 P (entD S fn) := by
 intro R σ args k r hw hwa hr
 simp only [entD] at hr ⊢
 split at hr
 · rename_i ρ hρ0
   have hwa' := z3u.2 hwa
   unfold callD at hr
   split at hr
   · rename_i la lb hla hlb
     cases hc : Nat.beq (List.length S.hp) (List.length ρ) && Nat.beq S.pn (List.length ρ) && zsm (List.length σ.H) σ.p S.pn ρ with
     | false => rw [hc] at hr; cases hr
     | true =>
       rw [hc] at hr
       simp only [cond_true] at hr
       simp only [Bool.and_eq_true] at hc
       obtain ⟨⟨hc1, hc3⟩, hc2⟩ := hc
       have hl := Nat.eq_of_beq_eq_true hc1
       have hpn := Nat.eq_of_beq_eq_true hc3
       have hwv : TV.wfs (mvs (handF ρ) args) := (zp7 (fun b o h => absurd h (zrl ρ b o)) args hwa').1
       have hwH : ∀ o, o ∈ newH (handF ρ) σ.H S.hp (ρ.map some) → o.wf := z1ax (fun b o h => absurd h (zrl ρ b o)) hw.H
       obtain ⟨x, h1, h2, h3, h4, h5⟩ := z1bi hwv hwH hla hlb hr
       rw [Option.bind_eq_some_iff] at h1
       obtain ⟨y, hy, hk⟩ := h1
       rw [h.open'] at hk
       have hwx := z3u.1 h2.wf
       obtain ⟨r1, r2⟩ := h.ret x y hy hwx h3
       generalize hq : List.length (S.X.at' y).2.H - List.length ρ = q at hk
       split at hk
       · rename_i us hus
         obtain ⟨u1, u2, u3⟩ := z19x hus
         simp only [List.length_map] at u2
         have u4 := u2.symm
         rw [u4] at hk u3
         generalize hρ' : ρ ++ newN (List.length σ.H) q = ρ' at hus hk u1 u2 u3 u4
         have hbρ : ∀ b, b ∈ ρ → b < σ.H.length := fun b hb => by
           simp only [zsm, Bool.and_eq_true] at hc2
           exact zsa hc2.1.1.1 b hb
         have hlt : ∀ b, b ∈ us.map (·.1) ++ [] → b < σ.H.length + q := fun b hb => by
           rw [List.append_nil, u1, ← hρ'] at hb
           rcases List.mem_append.1 hb with hb | hb
           · have := hbρ b hb; omega
           · obtain ⟨i, hi⟩ := List.mem_iff_getElem?.1 hb
             have := zjq q _ hi; omega
         refine ⟨_, us, q, [], hk, h.can, (mv_wf (fun b o h => absurd h (z18g _ _ b o)) _ r1).1, fun u hu => ?_, hlt, fun j hj => ?_, fun Y w c vs hY hYg g hsz hv => ?_⟩
         · obtain ⟨j, hj⟩ := List.mem_iff_getElem?.1 hu
           have := List.mem_of_getElem? (u3 j u hj)
           simp only [List.mem_map] at this
           obtain ⟨o', ho', e'⟩ := this
           have hwf := zzs (g := pinF ρ' ρ'.length) (fun b o h => absurd h (z18g _ _ b o)) (r2 _ ho')
           rw [e'] at hwf
           exact hwf
         · rw [List.append_nil, u1, ← hρ']
           exact List.mem_append_right _ (List.mem_of_getElem? (z1k8 q _ hj))
         · -- the names
           have hYρ : ∀ b, b ∈ ρ → Y[b]? = (σ.H.map TOb.flat)[b]? := fun b hb => hY b (by rw [List.append_nil, u1, ← hρ']; exact List.mem_append_left _ hb) (hbρ b hb)
           have hltY : ∀ b, b ∈ ρ → b < Y.length := fun b hb => by
             have h6 := hbρ b hb
             have h7 := hYρ b hb
             rw [List.getElem?_map, List.getElem?_eq_getElem h6] at h7
             exact (List.getElem?_eq_some_iff.1 h7).1
           have hltY' : ∀ b, b ∈ ρ' → b < Y.length := fun b hb => by
             rw [← hρ'] at hb
             rcases List.mem_append.1 hb with hb | hb
             · exact hltY b hb
             · obtain ⟨i, hi⟩ := List.mem_iff_getElem?.1 hb
               obtain ⟨rfl, hi2⟩ := zjq q _ hi
               exact (List.getElem?_eq_some_iff.1 (hYg i hi2)).1
           have hgone : ∀ j, j < q → c.m[List.length σ.H + j]? = some none := fun j hj => g.obj _ _ (hYg j hj)
           have hh0 : Hand { c with pn := σ.p } σ.H.length S.pn ρ := z16k hc2 rfl
           have hh : Hand c Y.length S.pn ρ := ⟨fun j b hj => hltY b (List.mem_of_getElem? hj), hh0.inj, fun j b hj hb => by
             have := (List.getElem?_eq_some_iff.1 hb).1; omega, hh0.pnl⟩
           have hinj' : ∀ i j b : Nat, ρ'[i]? = some b → ρ'[j]? = some b → i = j := fun i j b h1 h2 => by
             rw [← hρ'] at h1 h2
             by_cases hi : i < ρ.length
             · rw [List.getElem?_append_left hi] at h1
               by_cases hj : j < ρ.length
               · rw [List.getElem?_append_left hj] at h2
                 exact hh0.inj i j b h1 h2
               · rw [List.getElem?_append_right (by omega)] at h2
                 have := zjq q _ h2
                 have := hbρ b (List.mem_of_getElem? h1)
                 omega
             · rw [List.getElem?_append_right (by omega)] at h1
               have e1 := zjq q _ h1
               by_cases hj : j < ρ.length
               · rw [List.getElem?_append_left hj] at h2
                 have := hbρ b (List.mem_of_getElem? h2)
                 omega
               · rw [List.getElem?_append_right (by omega)] at h2
                 have e2 := zjq q _ h2
                 omega
           have hh' : Hand c Y.length ρ'.length ρ' := ⟨fun j b hj => hltY' b (List.mem_of_getElem? hj), hinj', fun j b hj hb => by
             have := (List.getElem?_eq_some_iff.1 hb).1; omega, Nat.le_refl _⟩
           have M := z1af g S.pn ρ
           have g0 : Ab.Good w (z2v w c S.pn ρ) ((newH (handF ρ) σ.H S.hp (ρ.map some)).map TOb.flat) [] := by
             refine z1fu g hh (by rw [List.length_map, zy3 (by simpa using hl), List.length_map]) fun j b o hj ho => ?_
             simp only [List.getElem?_map] at ho
             cases hq : (newH (handF ρ) σ.H S.hp (ρ.map some))[j]? with
             | none => rw [hq] at ho; cases ho
             | some q =>
               rw [hq] at ho
               simp only [Option.map_some, Option.some.injEq] at ho
               subst ho
               have hYb := hYρ b (List.mem_of_getElem? hj)
               have hbl := hbρ b (List.mem_of_getElem? hj)
               rcases zod hq with ⟨h1, _⟩ | ⟨b', h1, h2⟩
               · rw [List.getElem?_map, hj] at h1; cases h1
               · rw [List.getElem?_map, hj] at h1
                 cases h1
                 rcases h2 with ⟨e, t, h2, rfl⟩ | ⟨e, u, l, h2, rfl⟩ | ⟨h2, rfl⟩
                 · have hwt := hw.H _ (List.mem_of_getElem? h2)
                   have m := zca M t hwt.1
                   exact .inr ⟨t.cells, e, _, by rw [hYb, List.getElem?_map, h2]; rfl, rfl, m.len, m.leafs (z4z hwt.1 hwt.2), fun fv hf => m.cells fv hf⟩
                 · have hwt := hw.H _ (List.mem_of_getElem? h2)
                   exact .inr ⟨rowU u l, e, _, by rw [hYb, List.getElem?_map, h2]; rfl, rfl, rfl, z3z hwt, fun fv hf => VRs.transfer (fun a n h => M.base.foot a n h) _ (z7r hwt) hf⟩
                 · rcases h2 with h2 | h2
                   · have := List.getElem?_eq_none_iff.1 h2; omega
                   · exact .inl ⟨by rw [hYb, List.getElem?_map, h2]; rfl, rfl⟩
           have g1 := z1ip g0 h4 h5
           have hv0 : VRs w (z2v w c S.pn ρ) ((S.args x).map TV.pv) (fun i => vs[i]?) := by
             have h6 := h2.pvs
             rw [z4n (S.args x)] at h6
             rw [← z4n] at hv
             exact zbd ⟨_, _, g1⟩ h6 ((zrg M args hwa').2.1 _ hv)
           refine ((h.calls x y hy hwx h3) w _ vs g1 rfl (by rw [List.length_map, h2.len, hsz, z12k, List.length_map]) hv0).mono ?_
           rintro ed w' ⟨v, p, H', c', rfl, ⟨rfl, rfl⟩, g', hv', x'⟩
           obtain ⟨g'', x''⟩ := z1li hpn hgone g' x'
           rw [hρ'] at g'' x''
           have hxT : c'.T = [] := Ab.noT g'
           have hlen' : ((S.X.at' y).2.H.map TOb.flat).length = ρ'.length := by rw [List.length_map, ← u2]
           have hcm : c'.m.length = ρ'.length := by rw [g'.len, hlen']
           have xx := z1hz g hh' g'' x''
           have M0 := z1a1 g hh' g'' x'' (by omega)
           have M2 : MvH (pinF ρ' ρ'.length) w' { c' with pn := ρ'.length } w' (z1j c { c' with pn := ρ'.length } Y.length ρ'.length ρ') := by
             refine ⟨⟨M0.noT, fun b j k hf hm => ?_, M0.foot, M0.cell, M0.room⟩, fun b o h => absurd h (z18g _ _ b o), fun b o k h => absurd h (z18g _ _ b o)⟩
             unfold pinF at hf
             cases hb : Nat.blt b ρ'.length with
             | false => rw [hb] at hf; cases hf
             | true =>
               rw [hb] at hf
               simp only [cond_true, Fate.name, Option.some.injEq] at hf
               subst hf
               have := M0.id b _ k rfl hm
               unfold zy0 at this
               rw [if_pos (Nat.blt_eq.mp hb)] at this
               rw [z1em, List.getD_eq_getElem?_getD]; exact this
           have ids : ∀ b k : Nat, c.m[b]? = some (some k) → (z1j c { c' with pn := ρ'.length } Y.length ρ'.length ρ').m[b]? = some (some k) := fun b k hb => by
             have hbl : b < Y.length := by rw [← g.len]; exact (List.getElem?_eq_some_iff.1 hb).1
             cases hp : posOf ρ' b with
             | none => rw [zff hbl, hp]; simp only [hb, Option.join_some]
             | some j =>
               have hj := zb2 hp
               have hlj : j < ρ'.length := (List.getElem?_eq_some_iff.1 hj).1
               rw [z1bd hinj' hbl hj hlj (by show j < c'.m.length; omega)]
               exact x''.pin j k hlj (zev hj hb)
           have hT : c.T = [] := Ab.noT g
           have X : Ext w c w' (z1j c { c' with pn := ρ'.length } Y.length ρ'.length ρ') :=
             { os := xx.os, tape := xx.tape, output := xx.output, size := xx.size
               ids := ids
               new := xx.new
               blocks := fun k hk hkm _ => xx.blocks k hk hkm
               cells := fun k hk hkm off v _ hv => by rw [z6h (xx.blocks k hk hkm)]; exact hv
               toks := fun i k j h => by rw [show (z1j c { c' with pn := ρ'.length } Y.length ρ'.length ρ').T = c.T from rfl, hT] at h; simp at h
               stay := fun i k j hi h => by rw [hT] at hi; simp at hi
               tlen := Nat.le_refl _
               room := xx.room
               pn := xx.pn
               ok := xx.ok }
           have hv'' : VR w' { c' with pn := ρ'.length } (resTV (S.X.at' y).2).pv v := VR_pn _ _ hv'
           refine ⟨v, _, rfl, (zca M2 _ r1).pv v hv'', ?_, X⟩
           have hinjU : ∀ i j b : Nat, ((usOf us).map (·.1))[i]? = some b → ((usOf us).map (·.1))[j]? = some b → i = j := by
             have : (usOf us).map (·.1) = ρ' := by rw [← u1]; simp [usOf]
             rw [this]; exact hinj'
           have huslen : us.length = ρ'.length := by rw [← u1, List.length_map]
           refine (z1bx g hh' g'' x'' (by omega) (H3 := D.setAll (usOf us) Y) (by rw [D.setAll_len]; omega) (fun j b hj hb => ?_) (fun j b hj hb => ?_) (fun b o hb hno ho => ?_) (fun j hj hl => ?_)).1
           · have hju : j < us.length := by rw [huslen]; exact hj
             have hu := List.getElem?_eq_getElem hju
             generalize us[j] = u at hu
             have hub : u.1 = b := by
               have : (us.map (·.1))[j]? = some u.1 := by rw [List.getElem?_map, hu]; rfl
               rw [u1, hb] at this
               exact (Option.some.inj this).symm
             have h6 := u3 j u hu
             rw [List.getElem?_map] at h6
             cases h7 : (S.X.at' y).2.H[j]? with
             | none => rw [h7] at h6; cases h6
             | some o0 =>
               rw [h7] at h6
               simp only [Option.map_some, Option.some.injEq] at h6
               refine ⟨o0.flat, .row u.2.2.cells u.2.1, by rw [List.getElem?_map, h7]; rfl, ?_, ?_⟩
               · refine z1ft (usOf us) (j := j) hinjU ?_ (hltY' b (List.mem_of_getElem? hb))
                 simp only [usOf, List.getElem?_map, hu, Option.map_some, hub]
               · rcases z1ci M2 (r2 _ (List.mem_of_getElem? h7)) with ⟨e1, e2⟩ | ⟨cs, e, cs2, e1, e2, e3, e4, e5⟩
                 · rw [h6] at e2; cases e2
                 · rw [h6] at e2
                   cases e2
                   exact .inr ⟨cs, u.2.1, _, e1, rfl, e3, e4, e5⟩
           · have := (List.getElem?_eq_some_iff.1 hb).1; omega
           · have hnm : b ∉ (usOf us).map (·.1) := by
               have : (usOf us).map (·.1) = ρ' := by rw [← u1]; simp [usOf]
               rw [this]
               intro hm
               obtain ⟨i, hi⟩ := List.mem_iff_getElem?.1 hm
               exact hno i hi
             rw [D.setAll_ne _ hnm] at ho
             have hob := g.obj b o ho
             have hp : posOf ρ' b = none := by
               cases hp : posOf ρ' b with
               | none => rfl
               | some j => exact absurd (zb2 hp) (hno j)
             have hm : (z1j c { c' with pn := ρ'.length } Y.length ρ'.length ρ').m[b]? = c.m[b]? := by
               rw [zff hb, hp]
               have hbl : b < c.m.length := by rw [g.len]; exact hb
               rw [List.getElem?_eq_getElem hbl]; rfl
             have same : ∀ k : Nat, c.m[b]? = some (some k) → w'.heap[k]? = w.heap[k]? := fun k hk => by
               refine x''.blocks k (ObjC.lt g hk) fun hm => ?_
               obtain ⟨i, b', h12, h13⟩ := zeo hm
               have := g.inj b b' k hk h13
               subst this
               exact hno i h12
             cases o with
             | row cs e =>
               rcases hob with ⟨e1, e2⟩ | ⟨k, vs', fr, e1, e2, e3, e4, e5, e6⟩
               · exact .inl ⟨e1, hm.trans e2⟩
               · exact .inr ⟨k, vs', fr, hm.trans e1, by rw [same k e1]; exact e2, e3, e4, e5, VRs.ext X cs (fun _ _ _ e => e) e6⟩
             | raw ob =>
               obtain ⟨k, e1, e2⟩ := hob
               exact ⟨k, hm.trans e1, by rw [same k e1]; exact e2⟩
             | gone => exact hm.trans hob
           · omega
       · cases hk
   · cases hr
 · cases hr
end Go.Tm
set_option linter.unusedSimpArgs false
set_option linter.unusedVariables false
namespace Go.Tm
open Go.Ab
end Go.Tm
set_option linter.unusedSimpArgs false
set_option linter.unusedVariables false
namespace Go.Tm
open Go.Ab
mutual
theorem U.beq_self : ∀ u : U, u.beq u = true
 | .int k => by cases k <;> rfl
 | .bool => rfl
 | .str => rfl
 | .leaf => rfl
 | .arr n u => by simp only [U.beq, Nat.beq_refl, U.beq_self u, Bool.and_self]
 | .sl u => by simp only [U.beq, U.beq_self u]
 | .st us => by simp only [U.beq, Us.beq_self us]
theorem Us.beq_self : ∀ u : Us, u.beq u = true
 | .one u => by simp only [Us.beq, U.beq_self u]
 | .cons u us => by simp only [Us.beq, U.beq_self u, Us.beq_self us, Bool.and_self]
end
theorem z1c7 {R : Type} (u : U) (x : u.T) (k : u.T → Option R) : castK u u x k = k x := by
 unfold castK
 split
 · rfl
 · rename_i h; rw [U.beq_self] at h; cases h
mutual
def limU : (u : U) → u.T → Prop
 | .str, s => List.length s ≤ maxLen
 | .arr _ u, l => ∀ x, x ∈ l → limU u x
 | .sl u, l => List.length l ≤ maxLen ∧ ∀ x, x ∈ l → limU u x
 | .st us, x => limUs us x
 | _, _ => True
def limUs : (us : Us) → us.T → Prop
 | .one u, x => limU u x
 | .cons u us, x => limU u x.1 ∧ limUs us x.2
end
theorem z1pm (l : List UInt8) : ba (l.map fun b => (b.toNat : Int)) = ⟨l.toArray⟩ := by
 unfold ba
 congr 2
 rw [List.map_map]
 have : ((fun n : Int => UInt8.ofNat n.toNat) ∘ fun b : UInt8 => (b.toNat : Int)) = id := by
   funext b; simp
 rw [this, List.map_id]
theorem z16c {H : Type} {P : Program} {n : Nat} {e : TypeId} {u : U} (h : ∀ d : DataW H, Ab.Fits P n e d → ∃ x : u.T, wfU u x ∧ limU u x ∧ z4e d = cellU u x) :
   ∀ xs : List (DataW H), (∀ x, x ∈ xs → Ab.Fits P n e x) → ∃ l : List u.T, l.length = xs.length ∧ (∀ x, x ∈ l → wfU u x) ∧ (∀ x, x ∈ l → limU u x) ∧ z3j xs = l.flatMap fun x => cellU u x
 | [], _ => ⟨[], rfl, fun x hx => (by cases hx), fun x hx => (by cases hx), by simp [z3j]⟩
 | d :: xs, hf => by
   obtain ⟨x, h1, h2, h3⟩ := h d (hf d (by simp))
   obtain ⟨l, g1, g2, g3, g4⟩ := z16c h xs fun y hy => hf y (by simp [hy])
   refine ⟨x :: l, by simp [g1], fun y hy => ?_, fun y hy => ?_, by simp [z3j, h3, g4]⟩
   · rcases List.mem_cons.1 hy with rfl | hy
     · exact h1
     · exact g2 y hy
   · rcases List.mem_cons.1 hy with rfl | hy
     · exact h2
     · exact g3 y hy
mutual
theorem z16r {H : Type} {P : Program} : ∀ (u : U) (n m : Nat) (t : TypeId) (d : DataW H), Ab.Fits P n t d → agree P m t u = true → ∃ x : u.T, wfU u x ∧ limU u x ∧ z4e d = cellU u x
 | _, 0, _, _, _, h, _ => h.elim
 | _, _ + 1, 0, _, _, _, h => by simp [agree] at h
 | .int k, n + 1, m + 1, t, d, hf, ha => by
   simp only [agree, Bool.and_eq_true] at ha
   simp only [Ab.Fits] at hf
   cases hu : P.underlying t with
   | none => rw [hu] at hf; exact hf.elim
   | some y =>
     rw [hu] at ha hf
     cases y <;> first | (cases ha.2; done) | skip
     rename_i k'
     have := zeq ha.2
     subst this
     obtain ⟨x, rfl, hw⟩ := hf
     refine ⟨x, ?_, trivial, rfl⟩
     simpa [wfU, Lit.wf] using hw
 | .bool, n + 1, m + 1, t, d, hf, ha => by
   simp only [agree, Bool.and_eq_true] at ha
   simp only [Ab.Fits] at hf
   cases hu : P.underlying t with
   | none => rw [hu] at hf; exact hf.elim
   | some y =>
     rw [hu] at ha hf
     cases y <;> first | (cases ha.2; done) | skip
     obtain ⟨b, rfl⟩ := hf
     exact ⟨b, trivial, trivial, rfl⟩
 | .str, n + 1, m + 1, t, d, hf, ha => by
   simp only [agree, Bool.and_eq_true] at ha
   simp only [Ab.Fits] at hf
   cases hu : P.underlying t with
   | none => rw [hu] at hf; exact hf.elim
   | some y =>
     rw [hu] at ha hf
     cases y <;> first | (cases ha.2; done) | skip
     obtain ⟨l, rfl, hl⟩ := hf
     refine ⟨l.map fun b => (b.toNat : Int), ?_, ?_, ?_⟩
     · intro i hi
       simp only [List.mem_map] at hi
       obtain ⟨b, _, rfl⟩ := hi
       have := b.toNat_lt
       exact ⟨by omega, by omega⟩
     · simpa [limU] using hl
     · simp only [z4e, cellU, z1pm]
 | .arr k u, n + 1, m + 1, t, d, hf, ha => by
   simp only [agree, Bool.and_eq_true] at ha
   simp only [Ab.Fits] at hf
   cases hu : P.underlying t with
   | none => rw [hu] at hf; exact hf.elim
   | some y =>
     rw [hu] at ha hf
     cases y <;> first | (cases ha.2; done) | skip
     obtain ⟨xs, rfl, hl, hx⟩ := hf
     have ha := ha.2
     simp only [Bool.and_eq_true] at ha
     have ek := Nat.eq_of_beq_eq_true ha.1
     obtain ⟨l, g1, g2, g3, g4⟩ := z16c (fun d hd => z16r u n m _ d hd ha.2) xs hx
     exact ⟨l, ⟨by rw [g1, hl, ek], g2⟩, g3, by simp only [z4e, cellU, g4]⟩
 | .sl u, n + 1, m + 1, t, d, hf, ha => by
   simp only [agree, Bool.and_eq_true] at ha
   simp only [Ab.Fits] at hf
   cases hu : P.underlying t with
   | none => rw [hu] at hf; exact hf.elim
   | some y =>
     rw [hu] at ha hf
     cases y <;> first | (cases ha.2; done) | skip
     rcases hf with rfl | ⟨es, sp, rfl, hcap, hx⟩
     · exact ⟨[], fun x hx => (by cases hx), ⟨Nat.zero_le _, fun x hx => (by cases hx)⟩, by simp [z4e, cellU]⟩
     · obtain ⟨l, g1, g2, g3, g4⟩ := z16c (fun d hd => z16r u n m _ d hd ha.2) es hx
       exact ⟨l, g2, ⟨by rw [g1]; exact hcap, g3⟩, by simp only [z4e, cellU, g4, g1]⟩
 | .st us, n + 1, m + 1, t, d, hf, ha => by
   simp only [agree, Bool.and_eq_true] at ha
   simp only [Ab.Fits] at hf
   cases hu : P.underlying t with
   | none => rw [hu] at hf; exact hf.elim
   | some y =>
     rw [hu] at ha hf
     cases y <;> first | (cases ha.2; done) | skip
     rename_i fs
     obtain ⟨xs, rfl, hl, hx⟩ := hf
     obtain ⟨x, g1, g2, g3⟩ := z1js us n m fs.toList xs 0 (by simpa using hl.symm) (fun i f x hi hxi => hx i f x (by simpa using hi) hxi) ha.2
     exact ⟨x, g1, g2, by simp only [z4e, cellU, g3]⟩
 | .leaf, n + 1, m + 1, t, d, hf, ha => by
   simp only [agree, Bool.and_eq_true] at ha
   cases hu : P.underlying t with
   | none => rw [hu] at ha; cases ha.2
   | some y =>
     rw [hu] at ha
     cases y <;> cases ha.2
theorem z1js {H : Type} {P : Program} : ∀ (us : Us) (n m : Nat) (fs : List Field) (xs : List (DataW H)) (off : Nat), fs.length = xs.length →
   (∀ (i : Nat) f x, fs[i]? = some f → xs[i]? = some x → Ab.Fits P n f.type x) → zbg (agree P m) fs us off = true → ∃ x : us.T, wfUs us x ∧ limUs us x ∧ z3j xs = z1o us x
 | .one u, n, m, fs, xs, off, hl, hx, ha => by
   match fs, xs, hl with
   | [], _, _ => simp [zbg] at ha
   | [f], [d], _ =>
     simp only [zbg, Bool.and_eq_true] at ha
     obtain ⟨x, g1, g2, g3⟩ := z16r u n m f.type d (hx 0 f d rfl rfl) ha.2
     exact ⟨x, g1, g2, by simp [z3j, z1o, g3]⟩
   | _ :: _ :: _, _, _ => simp [zbg] at ha
 | .cons u us, n, m, fs, xs, off, hl, hx, ha => by
   match fs, xs, hl with
   | [], _, _ => simp [zbg] at ha
   | [f], _, _ => simp [zbg] at ha
   | f :: g :: fs, d :: e :: xs, hl =>
     simp only [zbg, Bool.and_eq_true] at ha
     obtain ⟨x, g1, g2, g3⟩ := z16r u n m f.type d (hx 0 f d rfl rfl) ha.1.2
     obtain ⟨y, k1, k2, k3⟩ := z1js us n m (g :: fs) (e :: xs) _ (by simpa using hl) (fun i f x hi hxi => hx (i + 1) f x (by simpa using hi) (by simpa using hxi)) ha.2
     refine ⟨(x, y), ⟨g1, k1⟩, ⟨g2, k2⟩, ?_⟩
     rw [z3j, g3, k3]; rfl
end
theorem z1nx {P : Program} {m : Nat} {t : TypeId} {u : U} (h : agree P m t u = true) : tyAgg P t = some u.isAgg := by
 cases m with
 | zero => simp [agree] at h
 | succ m =>
   simp only [agree, Bool.and_eq_true] at h
   have h := h.2
   unfold tyAgg
   cases hu : P.underlying t with
   | none => rw [hu] at h; cases h
   | some y =>
     rw [hu] at h
     cases y <;> cases u <;> first | rfl | (cases h; done)
theorem z1m9 {H : Type} {P : Program} {n m : Nat} {t : TypeId} {d : DataW H} {u : U} (hf : Ab.Fits P n t d) (ha : agree P m t u = true) : ∃ x : u.T, wfU u x ∧ limU u x ∧ argPV P t d = pvU u x := by
 obtain ⟨x, h1, h2, h3⟩ := z16r u n m t d hf ha
 refine ⟨x, h1, h2, ?_⟩
 unfold argPV
 rw [z1nx ha, h3]
 cases u <;> first | rfl | exact h1.elim
def zqa (P : Program) (m : Nat) : List TypeId → List U → Bool
 | [], [] => true
 | t :: ts, u :: us => agree P m t u && zqa P m ts us
 | _, _ => false
def wfL : (l : List U) → LT l → Prop
 | [], _ => True
 | [u], x => wfU u x
 | u :: v :: r, x => wfU u x.1 ∧ wfL (v :: r) x.2
def limL : (l : List U) → LT l → Prop
 | [], _ => True
 | [u], x => limU u x
 | u :: v :: r, x => limU u x.1 ∧ limL (v :: r) x.2
theorem z1kg {H : Type} {P : Program} {n m : Nat} : ∀ (l : List U) {ts : List TypeId} {ds : List (DataW H)}, ts.length = ds.length → (∀ (j : Nat) t d, ts[j]? = some t → ds[j]? = some d → Ab.Fits P n t d) → zqa P m ts l = true →
   ∃ x : LT l, wfL l x ∧ limL l x ∧ List.zipWith (argPV P) ts ds = (z2n l x).map TV.pv ∧ (∀ a, a ∈ z2n l x → a.wf) ∧ ∀ (R : Type) (k : LT l → Option R), sealT l (z2n l x) k = k x
 | [], ts, ds, hl, hf, ha => by
   match ts, ds, hl with
   | [], [], _ => exact ⟨(), trivial, trivial, rfl, fun a h => (by cases h), fun R k => rfl⟩
   | _ :: _, _, _ => simp [zqa] at ha
 | [u], ts, ds, hl, hf, ha => by
   match ts, ds, hl with
   | [], _, _ => simp [zqa] at ha
   | [t], [d], _ =>
     simp only [zqa, Bool.and_eq_true, and_true] at ha
     obtain ⟨x, h1, h2, h3⟩ := z1m9 (hf 0 t d rfl rfl) ha
     refine ⟨x, h1, h2, by simp [z2n, h3, TV.pv], fun a h => ?_, fun R k => ?_⟩
     · simp only [z2n, List.mem_singleton] at h; subst h; simpa only [TV.wf] using h1
     · simp only [z2n, sealT, sealK, z1c7]
   | _ :: _ :: _, _, _ => simp [zqa] at ha
 | u :: v :: r, ts, ds, hl, hf, ha => by
   match ts, ds, hl with
   | [], _, _ => simp [zqa] at ha
   | t :: ts, d :: ds, hl =>
     simp only [zqa, Bool.and_eq_true] at ha
     obtain ⟨x, h1, h2, h3⟩ := z1m9 (hf 0 t d rfl rfl) ha.1
     obtain ⟨y, g1, g2, g3, g4, g5⟩ := z1kg (v :: r) (ts := ts) (ds := ds) (by simpa using hl) (fun j t d ht hd => hf (j + 1) t d (by simpa using ht) (by simpa using hd)) ha.2
     refine ⟨(x, y), ⟨h1, g1⟩, ⟨h2, g2⟩, by simp [z2n, h3, g3, TV.pv], fun a h => ?_, fun R k => ?_⟩
     · simp only [z2n, List.mem_cons] at h
       rcases h with rfl | h
       · simpa only [TV.wf] using h1
       · exact g4 a (by simpa [z2n] using h)
     · simp only [z2n, sealT, sealK, z1c7]
       exact g5 R fun y => k (x, y)
def lawX : XS := XS.one .ret (Shp.mk 1 0 [(0, .d .bool)] []).xe
def zqb (f : FuncId) (A : List Pat) : Sig := ⟨f, A, [], 0, lawX⟩
theorem z1po {H : Type} {P : Program} {f : FuncId} {n m : Nat} {A : List Pat} {law : LT (zqb f A).codes → Option Bool} {ts : List TypeId} {ds : List (DataW H)} (hE : FnOK P (zqb f A) law)
   (hargs : ∀ x, (zqb f A).args x = z2n (zqb f A).codes x)
   (hl : ts.length = ds.length) (hf : ∀ (j : Nat) t d, ts[j]? = some t → ds[j]? = some d → Ab.Fits P n t d) (ha : zqa P m ts (zqb f A).codes = true)
   (h : ∀ x, wfL (zqb f A).codes x → limL (zqb f A).codes x → law x = some true) : ACalls P f (List.zipWith (argPV P) ts ds) [] 0 (fun p _ _ => p = .val (.bool true)) := by
 obtain ⟨x, h1, h2, h3, h4, h5⟩ := z1kg (zqb f A).codes hl hf ha
 have hcall := hE.calls x true (h x h1 h2) (fun t ht => h4 t (by rw [← hargs]; exact ht)) (fun o ho => by cases ho)
 rw [hargs, ← h3] at hcall
 intro w c vs g hpn0 hsz hvs
 refine (hcall w c vs g hpn0 hsz hvs).mono ?_
 rintro e w' ⟨v, p, H', c', rfl, ⟨rfl, rfl⟩, g', hv, hx⟩
 have hm : c.m = [] := List.eq_nil_of_length_eq_zero (by rw [g.len]; rfl)
 have hT : c.T = [] := Ab.noT g
 have hT' : c'.T = [] := Ab.noT g'
 refine ⟨v, _, _, [], c', rfl, rfl, g', hv, ?_⟩
 exact
     { os := hx.os, tape := hx.tape, output := hx.output, size := hx.size
       ids := fun b k h => by rw [hm] at h; simp at h
       new := hx.new
       blocks := fun k hk hkm _ => hx.blocks k hk hkm
       cells := fun k hk hkm off v _ hv => by rw [z6h (hx.blocks k hk hkm)]; exact hv
       toks := fun i k j h => by rw [hT'] at h; simp at h
       stay := fun i k j _ h => by rw [hT'] at h; simp at h
       tlen := by rw [hT, hT']; exact Nat.le_refl _
       room := hx.room
       pn := hx.pn
       ok := hx.ok }
end Go.Tm
set_option linter.unusedSimpArgs false
set_option linter.unusedVariables false
namespace Go.Tm
open Go.Ab
@[reducible] def lenW (l : List Bool) : Nat := List.length l
theorem z1pv (n : Nat) : lenW (List.replicate n true) = n := List.length_replicate ..
theorem z1p1 {S X : Type} (F : S → Option (S ⊕ X)) (st : Nat → S) (res : Nat → X) (n : Nat) (last : F (st n) = some (.inr (res n)))
   (step : ∀ i, i < n → (F (st i) = some (.inl (st (i + 1))) ∧ res i = res (i + 1)) ∨ F (st i) = some (.inr (res i))) : loopC F (st 0) = some (res 0) := by
 have key : ∀ k i, i + k = n → loopC F (st i) = some (res i) := by
   intro k
   induction k with
   | zero => intro i h; rw [show i = n by omega, z2i, last]; rfl
   | succ k ih =>
     intro i h
     rw [z2i]
     rcases step i (by omega) with ⟨h1, h2⟩ | h1
     · rw [h1, h2]; exact ih (i + 1) (by omega)
     · rw [h1]; rfl
 exact key n 0 (by omega)
theorem zrj (k : IntKind) {n : Int} (h : k.min ≤ n ∧ n ≤ k.max) : k.wrap n = n := by
 revert h
 cases k <;> simp only [IntKind.min, IntKind.max, IntKind.wrap, IntKind.bits, IntKind.signed] <;> simp <;> intro h1 h2 <;> (try split) <;> omega
theorem z1t {n : Int} (h : -9223372036854775808 ≤ n ∧ n ≤ 9223372036854775807) : W64 n = n := zrj .i64 h
theorem z12j {n : Int} (h : 0 ≤ n ∧ n ≤ 18446744073709551615) : WU64 n = n := zrj .u64 h
theorem ltI_t {a b : Int} (h : a < b) : ltI a b = true := by simpa [ltI] using h
theorem ltI_f {a b : Int} (h : ¬ a < b) : ltI a b = false := by simpa [ltI] using h
theorem leI_t {a b : Int} (h : a ≤ b) : leI a b = true := by simpa [leI] using h
theorem leI_f {a b : Int} (h : ¬ a ≤ b) : leI a b = false := by simpa [leI] using h
theorem eqI_t {a b : Int} (h : a = b) : eqI a b = true := by simpa [eqI] using h
theorem eqI_f {a b : Int} (h : ¬ a = b) : eqI a b = false := by simpa [eqI] using h
theorem neI_t {a b : Int} (h : ¬ a = b) : neI a b = true := by simpa [neI] using h
theorem neI_f {a b : Int} (h : a = b) : neI a b = false := by simpa [neI] using h
theorem inI_t {i : Int} {n : Nat} (h : 0 ≤ i ∧ i < n) : inI i n = true := by simp [inI, leI, ltI]; omega
theorem zri (n : Nat) : Nat.ble n n = true := Nat.ble_eq.mpr (Nat.le_refl n)
theorem beq_self (n : Nat) : Nat.beq n n = true := Nat.beq_refl n
theorem beq_t {n m : Nat} (h : n = m) : Nat.beq n m = true := by subst h; exact Nat.beq_refl n
theorem ble_t {n m : Nat} (h : n ≤ m) : Nat.ble n m = true := Nat.ble_eq.mpr h
theorem zlu {R α : Type} (l : List α) (n : Nat) (h : n = l.length) (k : List α → Option R) : winK l 0 n k = k l := by
 subst h
 unfold winK
 have : addN 0 (List.length l) = List.length l := rfl
 rw [this, zri]
 simp [subN]
theorem z1o4 {R α : Type} (l : List α) (i n : Nat) (h : i + n ≤ l.length) (k : List α → Option R) : winK l i n k = k ((l.drop i).take n) := by
 unfold winK
 rw [zrw, ble_t h]; rfl
theorem z1e3 {α : Type} (l m : List α) : cpyL l 0 l.length m = m.take l.length ++ l.drop m.length := by
 unfold cpyL
 rw [List.take_zero, List.nil_append, Nat.zero_add]
 rcases Nat.le_total m.length l.length with h | h
 · rw [Nat.min_eq_left h, List.take_length, List.take_of_length_le h]
 · rw [Nat.min_eq_right h, List.drop_length, List.drop_eq_nil_of_le h]
theorem z0p {R : Type} {n : Nat} (h : n ≤ 9223372036854775807) (k : Option R) : z0f n k = k := by
 unfold z0f; rw [Nat.ble_eq.mpr h]; rfl
theorem z8f {R : Type} {n m nb : Nat} (h : (n + m) * nb ≤ 140737488355328) (k : Unit → Option R) : appG n m nb k = k () := by
 unfold appG; rw [Nat.ble_eq.mpr h]; rfl
theorem z1qp {R : Type} {n : Int} {nb : Nat} (h0 : 0 ≤ n) (h : nb * n ≤ 281474976710656) (k : Option R) : makeG n nb k = k := by
 unfold makeG; rw [leI_t h0, leI_t h]; rfl
theorem z11m {α : Type} {l : List α} {i : Nat} : idxI l (i : Int) = l[i]? := by
 unfold idxI; rw [leI_t (Int.natCast_nonneg i)]; simp
theorem zsu {α : Type} {l : List α} {i : Nat} (h : i < l.length) : idxI l (i : Int) = some l[i] := by
 rw [z11m, List.getElem?_eq_getElem h]
theorem zi4 {l h : Int} {n : Nat} (hh : 0 ≤ l ∧ l ≤ h ∧ h ≤ n) : subOk l h n = true := by
 unfold subOk; rw [leI_t hh.1, leI_t hh.2.1, leI_t hh.2.2]; rfl
theorem z1jv (n : Nat) : subOk 0 (n : Int) n = true := zi4 (by omega)
theorem z1hw {α : Type} (l : List α) : subL l 0 (l.length : Int) = l := by
 simp [subL]
theorem z2t {R α : Type} (l : List α) (k : List α → Option R) : winK l 0 l.length k = k l := zlu l _ rfl k
theorem z1q0 {S X : Type} (F : S → Option (S ⊕ X)) (n : Nat) (st : Nat → S) (p : Nat → Bool) (yes no : X) (last : F (st n) = some (.inr no))
   (step : ∀ i, i < n → F (st i) = some (if p i = true then .inr yes else .inl (st (i + 1)))) : loopC F (st 0) = some (if (List.range n).any p = true then yes else no) := by
 have key : ∀ k i, i + k = n → loopC F (st i) = some (if ((List.range n).drop i).any p = true then yes else no) := by
   intro k
   induction k with
   | zero =>
     intro i h
     rw [show i = n by omega, z2i, last, List.drop_eq_nil_of_le (by simp)]; rfl
   | succ k ih =>
     intro i h
     have hi : i < (List.range n).length := by simp; omega
     rw [z2i, step i (by omega), List.drop_eq_getElem_cons hi, List.getElem_range, List.any_cons]
     cases hp : p i with
     | true => rfl
     | false =>
       simp only [Bool.false_eq_true, if_false, Bool.false_or]
       exact ih (i + 1) (by omega)
 simpa using key n 0 (by omega)
theorem z1ol {α : Type} (l : List α) (p : α → Bool) (q : Nat → Bool) (h : ∀ i (hi : i < l.length), q i = p l[i]) : (List.range l.length).any q = l.any p := by
 rw [Bool.eq_iff_iff, List.any_eq_true, List.any_eq_true]
 constructor
 · rintro ⟨i, hi, hq⟩
   have hi := List.mem_range.1 hi
   exact ⟨l[i], List.getElem_mem hi, by rw [← h i hi]; exact hq⟩
 · rintro ⟨x, hx, hp⟩
   obtain ⟨i, hi, rfl⟩ := List.mem_iff_getElem.1 hx
   exact ⟨i, List.mem_range.2 hi, by rw [h i hi]; exact hp⟩
theorem z1fw {S X α : Type} (F : S → Option (S ⊕ X)) (l : List α) (st : Nat → S) (p : α → Bool) (yes no : X) (last : F (st l.length) = some (.inr no))
   (step : ∀ i (hi : i < l.length), F (st i) = some (if p l[i] = true then .inr yes else .inl (st (i + 1)))) : loopC F (st 0) = some (if l.any p = true then yes else no) := by
 rw [← z1ol l p (fun i => if h : i < l.length then p l[i] else false) fun i hi => by simp [hi]]
 refine z1q0 F l.length st _ yes no last fun i hi => ?_
 rw [step i hi]
 simp only [dif_pos hi]
theorem ztk {S X A B : Type} (F : S → Option (S ⊕ X)) (l : List B) (st : Nat → A → S) (fin : A → X) (f : A → B → A) (I : Nat → A → Prop) (last : ∀ a, I l.length a → F (st l.length a) = some (.inr (fin a)))
   (step : ∀ i a (hi : i < l.length), I i a → F (st i a) = some (.inl (st (i + 1) (f a l[i]))) ∧ I (i + 1) (f a l[i])) {a : A} (h0 : I 0 a) : loopC F (st 0 a) = some (fin (l.foldl f a)) ∧ I l.length (l.foldl f a) := by
 have key : ∀ k i a, i + k = l.length → I i a → loopC F (st i a) = some (fin ((l.drop i).foldl f a)) ∧ I l.length ((l.drop i).foldl f a) := by
   intro k
   induction k with
   | zero =>
     intro i a h hI
     rw [show i = l.length by omega] at hI ⊢
     rw [z2i, last a hI, List.drop_length]; exact ⟨rfl, hI⟩
   | succ k ih =>
     intro i a h hI
     have hi : i < l.length := by omega
     obtain ⟨h1, h2⟩ := step i a hi hI
     rw [z2i, h1, List.drop_eq_getElem_cons hi, List.foldl_cons]
     exact ih (i + 1) _ (by omega) h2
 simpa using key l.length 0 a (by omega) h0
theorem eqS_t {a b : List Int} (h : a = b) : eqS a b = true := decide_eq_true h
theorem eqS_f {a b : List Int} (h : ¬ a = b) : eqS a b = false := decide_eq_false h
end Go.Tm
set_option linter.unusedSimpArgs false
set_option linter.unusedVariables false
namespace Go.Tm
open Go.Ab
end Go.Tm