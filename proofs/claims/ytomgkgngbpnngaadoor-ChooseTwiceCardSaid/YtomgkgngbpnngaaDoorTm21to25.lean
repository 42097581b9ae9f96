import Derived.Test.YtomgkgngbpnngaaDoorTm16to20
import Derived.Test.YtomgkgngbpnngaaDoorAb10to14
set_option linter.unusedSimpArgs false
set_option linter.unusedVariables false
namespace Go.Tm
open Go.Ab
theorem zto {R : Type} {S : Sig} {args : List TV} {Hc : List TOb} {la lb : List TV} {k : LT S.codes → Option R} {r : R} (hwa : TV.wfs args) (hwH : ∀ o, o ∈ Hc → o.wf) (ha : z1x S.A args = some la) (hb : z4g S.hp Hc = some lb)
   (h : (sealT S.codes (la ++ lb) fun x => zde (S.lens (z1o S.codes x)) (z6t S.A args ++ zbs S.hp Hc) (k x)) = some r) :
   ∃ x, k x = some r ∧ FitsL args (S.args x) ∧ (∀ o, o ∈ S.heap x → o.wf) ∧ (S.heap x).length = Hc.length ∧ ∀ (i : Nat) o o', Hc[i]? = some o → (S.heap x)[i]? = some o' → FitsO o o' := by
 have la_len := z7m _ _ ha
 have hlw : ∀ t, t ∈ la ++ lb → t.wf := fun t ht => by
   rcases List.mem_append.1 ht with ht | ht
   · exact z8s _ _ hwa ha t ht
   · exact zhl _ _ hwH hb t ht
 obtain ⟨x, h1, h2, h3, h4⟩ := zja S.codes _ hlw h
 obtain ⟨h1, hg⟩ := zht h1
 obtain ⟨hg1, hg2⟩ := hg.split
 refine ⟨x, h1, ?_⟩
 unfold Sig.args Sig.heap
 generalize hvs : z1o S.codes x = vs at h3 h4 hg1 hg2
 have sld : SldL (la ++ lb) vs := ⟨h3.symm, h4⟩
 obtain ⟨s1, s2⟩ := sld.split
 have hnS : (z7c S.A).length = la.length := la_len.symm
 obtain ⟨ts', f1, f2⟩ := zag (lens := S.lens vs) S.A args (vs.drop la.length) hwa ha s1 hg1
 rw [List.take_append_drop] at f1
 obtain ⟨f3, f4⟩ := zhr (lens := S.lens vs) (ss := vs.drop la.length) [] hwH hb s2 hg2
 rw [List.append_nil] at f3 f4
 rw [f1, hnS]
 refine ⟨f2, fun o ho => ?_, f3, f4⟩
 obtain ⟨i, hi⟩ := List.mem_iff_getElem?.1 ho
 have hlt : i < Hc.length := by rw [← f3]; exact (List.getElem?_eq_some_iff.1 hi).1
 have := f4 i _ o (List.getElem?_eq_getElem hlt) hi
 generalize Hc[i] = o0 at this
 cases o <;> cases o0 <;> first | exact this.elim | trivial | exact this.2.1
theorem z12a {w : World} {c : Cx} {Hc H' : List TOb} (g : Ab.Good w c (Hc.map TOb.flat) []) (h3 : H'.length = Hc.length) (h4 : ∀ (i : Nat) o o', Hc[i]? = some o → H'[i]? = some o' → FitsO o o') : Ab.Good w c (H'.map TOb.flat) [] := by
 refine Good.le g (by simp [h3]) fun i o1 o2 e1 e2 => ?_
 simp only [List.getElem?_map] at e1 e2
 cases e3 : Hc[i]? with
 | none => rw [e3] at e1; cases e1
 | some q =>
   cases e4 : H'[i]? with
   | none => rw [e4] at e2; cases e2
   | some q' =>
     rw [e3] at e1; rw [e4] at e2
     simp at e1 e2
     subst e1; subst e2
     exact znl (h4 i q q' e3 e4)
def viewA (H : List TOb) (args : List TV) : List TV := bif z8z args then args else mvs (viewO 6 H) args
def noObs : List TOb → Bool
 | [] => true
 | _ => false
def entQ (S : Sig) (fn : LT S.codes → Option S.X.T) : Ent where
 f := S.f
 ok := fun H args => fitL S.A (viewA H args)
 run := fun H args k => match z1x S.A (viewA H args), z4g S.hp [] with
   | some a, some b => bif Nat.beq S.pn 0 then sealT S.codes (a ++ b) fun x => zde (S.lens (z1o S.codes x)) (z6t S.A (viewA H args) ++ zbs S.hp [])
       ((fn x).bind fun y => S.X.open' y fun _ τ => bif noObs τ.H && ((resTV τ).flatB || (z8z args && (resTV τ).pureB)) then k (resTV τ) else none) else none
   | _, _ => none
theorem zzk {w w' : World} {c c' : Cx} {H : List AObj} (g : Ab.Good w c H []) (x : ExtP 0 w (z3v w c 0) w' c') (a : Addr) (n : Nat) (h : Foot w' c' a n) : Foot w' c a n := by
 rcases h with h | ⟨h1, h2, h3, h4, h5⟩
 · exact .inl h
 · rw [x.ok] at h5
   by_cases hlt : a.block < w.heap.size
   · obtain ⟨h6, h7, h8⟩ := h5 hlt
     exact .inr ⟨h1, h2, h6, h7, h8⟩
   · exact .inr ⟨h1, h2, fun h => hlt (g.mlt h), fun i j h => absurd (g.tlt h) hlt, g.okn _ _ (Nat.le_of_not_lt hlt)⟩
theorem zrc {w w' : World} {c c0 c' : Cx} {H : List AObj} (g : Ab.Good w c H []) (hm : c0.m = []) (x : ExtP 0 w c0 w' c') : Ab.Good w' c H [] ∧ Ext w c w' c :=
 zf7 g x.os x.tape x.output x.size (fun b hb => x.blocks b hb (by rw [hm]; simp))
theorem z1a {P : Program} {S : Sig} {fn : LT S.codes → Option S.X.T} (h : FnOK P S fn) : EntOK P (entQ S fn) := by
 intro R H args k r hH hwa hr
 simp only [entQ] at hr ⊢
 split at hr
 · rename_i la lb hla hlb
   cases hpn : Nat.beq S.pn 0 with
   | false => rw [hpn] at hr; cases hr
   | true =>
     rw [hpn] at hr
     simp only [cond_true] at hr
     have hp0 := Nat.eq_of_beq_eq_true hpn
     have hwa' := z2v.2 hwa
     have hwv : TV.wfs (viewA H args) := by
       unfold viewA
       cases z8z args with
       | true => exact hwa'
       | false => exact (zdn (zmj hH 6) args hwa').1
     obtain ⟨x, h1, h2, h3, h4, h5⟩ := zto hwv (by intro o ho; cases ho) hla hlb hr
     have hheap : S.heap x = [] := List.eq_nil_of_length_eq_zero h4
     rw [Option.bind_eq_some_iff] at h1
     obtain ⟨y, hy, hk⟩ := h1
     rw [h.open'] at hk
     have hwx := z2v.1 h2.wf
     obtain ⟨r1, r2⟩ := h.ret x y hy hwx h3
     cases hc : noObs (S.X.at' y).2.H && ((resTV (S.X.at' y).2).flatB || (z8z args && (resTV (S.X.at' y).2).pureB)) with
     | false => rw [hc] at hk; cases hk
     | true =>
       rw [hc] at hk
       simp only [cond_true] at hk
       simp only [Bool.and_eq_true, Bool.or_eq_true] at hc
       obtain ⟨hn, hres⟩ := hc
       refine ⟨_, hk, r1, .inr ⟨h.can, fun Y w c vs hY g hsz hv => ?_⟩⟩
       have hcall := h.calls x y hy hwx h3
       rw [hheap, hp0] at hcall
       have hlen : vs.size = (((S.args x).map TV.pv)).length := by
         rw [List.length_map, h2.len, hsz]
         unfold viewA
         cases z8z args with
         | true => rfl
         | false => simp [zmi]
       cases hpu : z8z args with
       | true =>
         have hva : viewA H args = args := by unfold viewA; rw [hpu]; rfl
         have hp1 := (zb9 args hwa' hpu).1
         have g0 : Ab.Good w (z3v w c 0) [] [] := zvi g 0
         have hv0 : VRs w (z3v w c 0) ((S.args x).map TV.pv) (fun i => vs[i]?) := by
           have h6 := h2.pvs
           rw [hva, z3o, z3o] at h6
           rw [z3o] at hp1
           exact z7d ⟨_, _, g0⟩ h6 (VRs.transfer (zvz 0) _ hp1 hv)
         refine (hcall w _ vs g0 rfl hlen hv0).mono ?_
         rintro e w' ⟨v, p, H', c', rfl, ⟨rfl, rfl⟩, g', hv', x'⟩
         obtain ⟨g1, x1⟩ := zrc g rfl x'
         refine ⟨v, rfl, ?_, g1, x1⟩
         rcases hres with hf | ⟨_, hf⟩
         · exact Fl.to _ (zf6 _ r1 hf).1 hv'
         · exact VR.transfer (zzk g x') _ (zfb _ r1 hf).1 hv'
       | false =>
         have hva : viewA H args = mvs (viewO 6 H) args := by unfold viewA; rw [hpu]; rfl
         have M := zwb hY g hH 6
         have hv0 : VRs w z7i ((S.args x).map TV.pv) (fun i => vs[i]?) := by
           have h6 := h2.pvs
           rw [hva, z3o (S.args x)] at h6
           rw [← z3o] at hv
           exact z7d ⟨_, _, zr7 g⟩ h6 ((zft M args hwa').2.1 _ hv)
         refine (hcall w _ vs (zr7 g) rfl hlen hv0).mono ?_
         rintro e w' ⟨v, p, H', c', rfl, ⟨rfl, rfl⟩, g', hv', x'⟩
         obtain ⟨g1, x1⟩ := zrc g rfl x'
         refine ⟨v, rfl, ?_, g1, x1⟩
         rcases hres with hf | ⟨hf, _⟩
         · exact Fl.to _ (zf6 _ r1 hf).1 hv'
         · rw [hpu] at hf; cases hf
 · cases hr
def nameM : List HPat → List (Option Nat) → Nat → List Nat × List HPat
 | h :: hs, some b :: ρ, n => (b :: (nameM hs ρ n).1, (nameM hs ρ n).2)
 | h :: hs, none :: ρ, n => (n :: (nameM hs ρ (n + 1)).1, h :: (nameM hs ρ (n + 1)).2)
 | _, _, _ => ([], [])
def z8w (S : Sig) (H : List TOb) (args : List TV) : List (Option Nat) := zpz S.hp (zt7 H S.hp 0 (bindL S.A args (S.hp.map fun _ => none)))
def frzOf (S : Sig) (H : List TOb) (args : List TV) (ρ : List (Option Nat)) : List Nat := frzL S.A args ++ frzHs H S.hp ρ
def callP {R : Type} (S : Sig) (fn : LT S.codes → Option S.X.T) (σ1 : TS) (ρ : List Nat) (args : List TV) (k : TS → TV → Option R) : Option R :=
 match z1x S.A (mvs (handF ρ) args), z4g S.hp (newH (handF ρ) σ1.H S.hp (ρ.map some)) with
 | some a, some b => bif Nat.beq (List.length S.hp) (List.length ρ) && zm1 (List.length σ1.H) σ1.p S.pn ρ then
     sealT S.codes (a ++ b) fun x => zde (S.lens (z1o S.codes x)) (z6t S.A (mvs (handF ρ) args) ++ zbs S.hp (newH (handF ρ) σ1.H S.hp (ρ.map some)))
       ((fn x).bind fun y => S.X.open' y fun _ τ => bif Nat.ble S.pn (List.length τ.H) then k (backS σ1 S.pn ρ τ.H) ((resTV τ).mv (backF (List.length σ1.H) S.pn ρ)) else none)
   else none
 | _, _ => none
def prepP {R : Type} (σ : TS) (fz : List Nat) (ρr : List (Option Nat)) (hs : List HPat) (args : List TV) (k : TS → List TV → Option R) : Option R :=
 bif z8f σ.p ρr && Nat.beq (List.length hs) (List.length ρr) then k (stRe σ (z4i σ.p σ.H ρr fz) hs ρr) (mvs (z4i σ.p σ.H ρr fz) args) else none
def entP (S : Sig) (fn : LT S.codes → Option S.X.T) : EEnt where
 f := S.f
 ok := fun σ args => fitL S.A args
 run := fun σ args k =>
   prepP σ (frzOf S σ.H args (z8w S σ.H args)) (keepR (List.length σ.H) σ.p (frzOf S σ.H args (z8w S σ.H args)) (z8w S σ.H args) ++ (nameM S.hp (z8w S σ.H args) (List.length σ.H)).2.map fun _ => none)
     (List.replicate (List.length σ.H) .gone ++ (nameM S.hp (z8w S σ.H args) (List.length σ.H)).2) args fun σ1 args1 =>
       callP S fn σ1 (nameM S.hp (z8w S σ.H args) (List.length σ.H)).1 args1 k
theorem zxl {R : Type} {P : Program} {S : Sig} {fn : LT S.codes → Option S.X.T} (h : FnOK P S fn) {σ : TS} {ρ : List Nat} {args : List TV} {k : TS → TV → Option R} {r : R} (hw : σ.wf) (hwa : TV.wfs args) (hr : callP S fn σ ρ args k = some r) : EDoes P S.f σ args k r := by
 unfold callP at hr
 split at hr
 · rename_i la lb hla hlb
   cases hc : Nat.beq (List.length S.hp) (List.length ρ) && zm1 (List.length σ.H) σ.p S.pn ρ with
   | false => rw [hc] at hr; cases hr
   | true =>
     rw [hc] at hr
     simp only [cond_true] at hr
     simp only [Bool.and_eq_true] at hc
     obtain ⟨hc1, hc2⟩ := hc
     have hl := Nat.eq_of_beq_eq_true hc1
     have hwv : TV.wfs (mvs (handF ρ) args) := (zdn (fun b o h => absurd h (zjm ρ b o)) args hwa).1
     have hwH : ∀ o, o ∈ newH (handF ρ) σ.H S.hp (ρ.map some) → o.wf := zsu (fun b o h => absurd h (zjm ρ b o)) hw.H
     obtain ⟨x, h1, h2, h3, h4, h5⟩ := zto hwv hwH hla hlb hr
     rw [Option.bind_eq_some_iff] at h1
     obtain ⟨y, hy, hk⟩ := h1
     rw [h.open'] at hk
     have hwx := z2v.1 h2.wf
     obtain ⟨r1, r2⟩ := h.ret x y hy hwx h3
     cases hpn : Nat.ble S.pn (List.length (S.X.at' y).2.H) with
     | false => rw [hpn] at hk; cases hk
     | true =>
       rw [hpn] at hk
       simp only [cond_true] at hk
       have hw1 := z11i hw S.pn ρ r2
       have hw2 := (mv_wf (fun b o h => absurd h (zgi (List.length σ.H) S.pn ρ b o)) _ r1).1
       refine ⟨h.can, ⟨_, _, hk, hw1, hw2⟩, fun c w a vs hrel hsz hv => ?_⟩
       have g := hrel.good
       have hh : Hand c (σ.H.map TOb.flat).length S.pn ρ := by rw [List.length_map]; exact zs4 hc2 hrel.1
       have g0 := z12a (zz6 hw.H g hh hl) h4 h5
       have M := zuf g S.pn ρ
       have hv0 : VRs w (z3e w c S.pn ρ) ((S.args x).map TV.pv) (fun i => vs[i]?) := by
         have h6 := h2.pvs
         rw [z3o (S.args x)] at h6
         rw [← z3o] at hv
         exact z7d ⟨_, _, g0⟩ h6 ((zft M args hwa).2.1 _ hv)
       refine ((h.calls x y hy hwx h3) w _ vs g0 rfl (by rw [List.length_map, h2.len, hsz, zmi, List.length_map]) hv0).mono ?_
       rintro e w' ⟨v, p, H', c', rfl, ⟨rfl, rfl⟩, g', hv', x'⟩
       obtain ⟨c3, b1, b2, b3⟩ := z10q hrel hw hc2 r2 g' x' (Nat.le_of_ble_eq_true hpn)
       exact ⟨v, _, _, c3, rfl, hk, hw1, hw2, rfl, b1, b3 _ _ r1 hv', b2⟩
 · cases hr
theorem zdt {P : Program} {S : Sig} {fn : LT S.codes → Option S.X.T} (h : FnOK P S fn) : zgg P (entP S fn) := by
 intro R σ args k r hw hwa hr
 simp only [entP, prepP] at hr ⊢
 generalize hρr : (keepR (List.length σ.H) σ.p (frzOf S σ.H args (z8w S σ.H args)) (z8w S σ.H args) ++ (nameM S.hp (z8w S σ.H args) (List.length σ.H)).2.map fun _ => none) = ρr at hr
 generalize hhs : (List.replicate (List.length σ.H) HPat.gone ++ (nameM S.hp (z8w S σ.H args) (List.length σ.H)).2) = hs at hr
 generalize (nameM S.hp (z8w S σ.H args) (List.length σ.H)).1 = ρ at hr
 generalize frzOf S σ.H args (z8w S σ.H args) = fz at hr
 cases hc : z8f σ.p ρr && Nat.beq (List.length hs) (List.length ρr) with
 | false => rw [hc] at hr; cases hr
 | true =>
   rw [hc] at hr
   simp only [cond_true] at hr
   simp only [Bool.and_eq_true] at hc
   have hwa' := z2v.2 hwa
   have hd := zxl h (zwa hw) (zdn (zln hw.H) args hwa').1 hr
   refine ⟨hd.can, hd.wf, fun c w a vs hrel hsz hv => ?_⟩
   obtain ⟨q1, q2⟩ := zyg hrel hw hc.1 fz (Nat.eq_of_beq_eq_true hc.2)
   have M := zoz hrel.good hw.H hrel.1 (ρ := ρr) fz
   have hv1 : VRs w (reCx c ρr) ((mvs (z4i σ.p σ.H ρr fz) args).map TV.pv) (fun i => vs[i]?) := by
     rw [← z3o] at hv ⊢
     exact (zft M args hwa').2.1 _ hv
   refine (hd.calls _ w a vs q1 (by rw [hsz, zmi, List.length_map]) hv1).mono ?_
   rintro e w' ⟨v, σ', t, c', e1, e2, e3, e4, e5, e6, e7, e8⟩
   exact ⟨v, σ', t, c', e1, e2, e3, e4, e5, e6, e7, ExtP.trans q2 e8⟩
mutual
theorem VR_pn {w : World} {c : Cx} (n : Nat) : ∀ (p : PV) {v : Value}, VR w c p v → VR w { c with pn := n } p v
 | .val _, _, h => by simp only [VR] at h ⊢; exact h
 | .ptr b off, _, h => by simp only [VR] at h ⊢; exact h
 | .fz cs, _, h => by
   simp only [VR] at h ⊢
   obtain ⟨a, h1, h2, hl, h3⟩ := h
   exact ⟨a, h1, h2, hl, zii n cs h3⟩
 | .sl b off len sz, _, h => by simp only [VR] at h ⊢; exact h
 | .tr len cs t, _, h => by
   simp only [VR] at h ⊢
   rcases h with h | ⟨a, cap, h1, hc, h2, h4, hl, h3⟩
   · exact .inl h
   · refine .inr ⟨a, cap, h1, hc, h2, ?_, hl, zii n cs h3⟩
     cases t <;> exact h4
 | .fn f caps, _, h => by
   simp only [VR] at h ⊢
   obtain ⟨cv, h1, h2, h3⟩ := h
   exact ⟨cv, h1, h2, zii n caps h3⟩
 | .agg cs, _, h => by
   simp only [VR] at h ⊢
   obtain ⟨cv, h1, h2, hl, h3⟩ := h
   exact ⟨cv, h1, h2, hl, zii n cs h3⟩
 | .tup cs, _, h => by
   simp only [VR] at h ⊢
   obtain ⟨cv, h1, h2, h3⟩ := h
   exact ⟨cv, h1, h2, zii n cs h3⟩
 | .ifc t p, _, h => by
   simp only [VR] at h ⊢
   obtain ⟨v, h1, h2⟩ := h
   exact ⟨v, h1, VR_pn n p h2⟩
 | .one, _, h => by simp only [VR] at h ⊢; exact h
 | .dead, _, _ => by simp only [VR]
theorem zii {w : World} {c : Cx} (n : Nat) : ∀ (ps : List PV) {f : Nat → Option Value}, VRs w c ps f → VRs w { c with pn := n } ps f
 | [], _, _ => by simp only [VRs]
 | p :: ps, f, h => by
   simp only [VRs] at h ⊢
   obtain ⟨⟨v, h1, h2⟩, h3⟩ := h
   exact ⟨⟨v, h1, VR_pn n p h2⟩, zii n ps h3⟩
end
end Go.Tm
set_option linter.unusedSimpArgs false
set_option linter.unusedVariables false
namespace Go.Tm
open Go.Ab
end Go.Tm
set_option linter.unusedSimpArgs false
set_option linter.unusedVariables false
namespace Go.Tm
open Go.Ab
mutual
theorem U.beq_self : ∀ u : U, u.beq u = true
 | .int k => by cases k <;> rfl
 | .bool => rfl
 | .str => rfl
 | .leaf => rfl
 | .arr n u => by simp only [U.beq, Nat.beq_refl, U.beq_self u, Bool.and_self]
 | .sl u => by simp only [U.beq, U.beq_self u]
 | .st us => by simp only [U.beq, Us.beq_self us]
theorem Us.beq_self : ∀ u : Us, u.beq u = true
 | .one u => by simp only [Us.beq, U.beq_self u]
 | .cons u us => by simp only [Us.beq, U.beq_self u, Us.beq_self us, Bool.and_self]
end
theorem zpl {R : Type} (u : U) (x : u.T) (k : u.T → Option R) : castK u u x k = k x := by
 unfold castK
 split
 · rfl
 · rename_i h; rw [U.beq_self] at h; cases h
mutual
def limU : (u : U) → u.T → Prop
 | .str, s => List.length s ≤ maxLen
 | .arr _ u, l => ∀ x, x ∈ l → limU u x
 | .sl u, l => List.length l ≤ maxLen ∧ ∀ x, x ∈ l → limU u x
 | .st us, x => limUs us x
 | _, _ => True
def limUs : (us : Us) → us.T → Prop
 | .one u, x => limU u x
 | .cons u us, x => limU u x.1 ∧ limUs us x.2
end
theorem zux (l : List UInt8) : ba (l.map fun b => (b.toNat : Int)) = ⟨l.toArray⟩ := by
 unfold ba
 congr 2
 rw [List.map_map]
 have : ((fun n : Int => UInt8.ofNat n.toNat) ∘ fun b : UInt8 => (b.toNat : Int)) = id := by
   funext b; simp
 rw [this, List.map_id]
theorem zl0 {H : Type} {P : Program} {n : Nat} {e : TypeId} {u : U} (h : ∀ d : DataW H, Ab.Fits P n e d → ∃ x : u.T, wfU u x ∧ limU u x ∧ z1v d = cellU u x) :
   ∀ xs : List (DataW H), (∀ x, x ∈ xs → Ab.Fits P n e x) → ∃ l : List u.T, l.length = xs.length ∧ (∀ x, x ∈ l → wfU u x) ∧ (∀ x, x ∈ l → limU u x) ∧ z1i xs = l.flatMap fun x => cellU u x
 | [], _ => ⟨[], rfl, fun x hx => (by cases hx), fun x hx => (by cases hx), by simp [z1i]⟩
 | d :: xs, hf => by
   obtain ⟨x, h1, h2, h3⟩ := h d (hf d (by simp))
   obtain ⟨l, g1, g2, g3, g4⟩ := zl0 h xs fun y hy => hf y (by simp [hy])
   refine ⟨x :: l, by simp [g1], fun y hy => ?_, fun y hy => ?_, by simp [z1i, h3, g4]⟩
   · rcases List.mem_cons.1 hy with rfl | hy
     · exact h1
     · exact g2 y hy
   · rcases List.mem_cons.1 hy with rfl | hy
     · exact h2
     · exact g3 y hy
mutual
theorem zl2 {H : Type} {P : Program} : ∀ (u : U) (n m : Nat) (t : TypeId) (d : DataW H), Ab.Fits P n t d → agree P m t u = true → ∃ x : u.T, wfU u x ∧ limU u x ∧ z1v d = cellU u x
 | _, 0, _, _, _, h, _ => h.elim
 | _, _ + 1, 0, _, _, _, h => by simp [agree] at h
 | .int k, n + 1, m + 1, t, d, hf, ha => by
   simp only [agree, Bool.and_eq_true] at ha
   simp only [Ab.Fits] at hf
   cases hu : P.underlying t with
   | none => rw [hu] at hf; exact hf.elim
   | some y =>
     rw [hu] at ha hf
     cases y <;> first | (cases ha.2; done) | skip
     rename_i k'
     have := z6w ha.2
     subst this
     obtain ⟨x, rfl, hw⟩ := hf
     refine ⟨x, ?_, trivial, rfl⟩
     simpa [wfU, Lit.wf] using hw
 | .bool, n + 1, m + 1, t, d, hf, ha => by
   simp only [agree, Bool.and_eq_true] at ha
   simp only [Ab.Fits] at hf
   cases hu : P.underlying t with
   | none => rw [hu] at hf; exact hf.elim
   | some y =>
     rw [hu] at ha hf
     cases y <;> first | (cases ha.2; done) | skip
     obtain ⟨b, rfl⟩ := hf
     exact ⟨b, trivial, trivial, rfl⟩
 | .str, n + 1, m + 1, t, d, hf, ha => by
   simp only [agree, Bool.and_eq_true] at ha
   simp only [Ab.Fits] at hf
   cases hu : P.underlying t with
   | none => rw [hu] at hf; exact hf.elim
   | some y =>
     rw [hu] at ha hf
     cases y <;> first | (cases ha.2; done) | skip
     obtain ⟨l, rfl, hl⟩ := hf
     refine ⟨l.map fun b => (b.toNat : Int), ?_, ?_, ?_⟩
     · intro i hi
       simp only [List.mem_map] at hi
       obtain ⟨b, _, rfl⟩ := hi
       have := b.toNat_lt
       exact ⟨by omega, by omega⟩
     · simpa [limU] using hl
     · simp only [z1v, cellU, zux]
 | .arr k u, n + 1, m + 1, t, d, hf, ha => by
   simp only [agree, Bool.and_eq_true] at ha
   simp only [Ab.Fits] at hf
   cases hu : P.underlying t with
   | none => rw [hu] at hf; exact hf.elim
   | some y =>
     rw [hu] at ha hf
     cases y <;> first | (cases ha.2; done) | skip
     obtain ⟨xs, rfl, hl, hx⟩ := hf
     have ha := ha.2
     simp only [Bool.and_eq_true] at ha
     have ek := Nat.eq_of_beq_eq_true ha.1
     obtain ⟨l, g1, g2, g3, g4⟩ := zl0 (fun d hd => zl2 u n m _ d hd ha.2) xs hx
     exact ⟨l, ⟨by rw [g1, hl, ek], g2⟩, g3, by simp only [z1v, cellU, g4]⟩
 | .sl u, n + 1, m + 1, t, d, hf, ha => by
   simp only [agree, Bool.and_eq_true] at ha
   simp only [Ab.Fits] at hf
   cases hu : P.underlying t with
   | none => rw [hu] at hf; exact hf.elim
   | some y =>
     rw [hu] at ha hf
     cases y <;> first | (cases ha.2; done) | skip
     rcases hf with rfl | ⟨es, sp, rfl, hcap, hx⟩
     · exact ⟨[], fun x hx => (by cases hx), ⟨Nat.zero_le _, fun x hx => (by cases hx)⟩, by simp [z1v, cellU]⟩
     · obtain ⟨l, g1, g2, g3, g4⟩ := zl0 (fun d hd => zl2 u n m _ d hd ha.2) es hx
       exact ⟨l, g2, ⟨by rw [g1]; exact hcap, g3⟩, by simp only [z1v, cellU, g4, g1]⟩
 | .st us, n + 1, m + 1, t, d, hf, ha => by
   simp only [agree, Bool.and_eq_true] at ha
   simp only [Ab.Fits] at hf
   cases hu : P.underlying t with
   | none => rw [hu] at hf; exact hf.elim
   | some y =>
     rw [hu] at ha hf
     cases y <;> first | (cases ha.2; done) | skip
     rename_i fs
     obtain ⟨xs, rfl, hl, hx⟩ := hf
     obtain ⟨x, g1, g2, g3⟩ := zwl us n m fs.toList xs 0 (by simpa using hl.symm) (fun i f x hi hxi => hx i f x (by simpa using hi) hxi) ha.2
     exact ⟨x, g1, g2, by simp only [z1v, cellU, g3]⟩
 | .leaf, n + 1, m + 1, t, d, hf, ha => by
   simp only [agree, Bool.and_eq_true] at ha
   cases hu : P.underlying t with
   | none => rw [hu] at ha; cases ha.2
   | some y =>
     rw [hu] at ha
     cases y <;> cases ha.2
theorem zwl {H : Type} {P : Program} : ∀ (us : Us) (n m : Nat) (fs : List Field) (xs : List (DataW H)) (off : Nat), fs.length = xs.length →
   (∀ (i : Nat) f x, fs[i]? = some f → xs[i]? = some x → Ab.Fits P n f.type x) → z4o (agree P m) fs us off = true → ∃ x : us.T, wfUs us x ∧ limUs us x ∧ z1i xs = z0r us x
 | .one u, n, m, fs, xs, off, hl, hx, ha => by
   match fs, xs, hl with
   | [], _, _ => simp [z4o] at ha
   | [f], [d], _ =>
     simp only [z4o, Bool.and_eq_true] at ha
     obtain ⟨x, g1, g2, g3⟩ := zl2 u n m f.type d (hx 0 f d rfl rfl) ha.2
     exact ⟨x, g1, g2, by simp [z1i, z0r, g3]⟩
   | _ :: _ :: _, _, _ => simp [z4o] at ha
 | .cons u us, n, m, fs, xs, off, hl, hx, ha => by
   match fs, xs, hl with
   | [], _, _ => simp [z4o] at ha
   | [f], _, _ => simp [z4o] at ha
   | f :: g :: fs, d :: e :: xs, hl =>
     simp only [z4o, Bool.and_eq_true] at ha
     obtain ⟨x, g1, g2, g3⟩ := zl2 u n m f.type d (hx 0 f d rfl rfl) ha.1.2
     obtain ⟨y, k1, k2, k3⟩ := zwl us n m (g :: fs) (e :: xs) _ (by simpa using hl) (fun i f x hi hxi => hx (i + 1) f x (by simpa using hi) (by simpa using hxi)) ha.2
     refine ⟨(x, y), ⟨g1, k1⟩, ⟨g2, k2⟩, ?_⟩
     rw [z1i, g3, k3]; rfl
end
theorem zxz {P : Program} {m : Nat} {t : TypeId} {u : U} (h : agree P m t u = true) : tyAgg P t = some u.isAgg := by
 cases m with
 | zero => simp [agree] at h
 | succ m =>
   simp only [agree, Bool.and_eq_true] at h
   have h := h.2
   unfold tyAgg
   cases hu : P.underlying t with
   | none => rw [hu] at h; cases h
   | some y =>
     rw [hu] at h
     cases y <;> cases u <;> first | rfl | (cases h; done)
theorem zzm {H : Type} {P : Program} {n m : Nat} {t : TypeId} {d : DataW H} {u : U} (hf : Ab.Fits P n t d) (ha : agree P m t u = true) : ∃ x : u.T, wfU u x ∧ limU u x ∧ argPV P t d = pvU u x := by
 obtain ⟨x, h1, h2, h3⟩ := zl2 u n m t d hf ha
 refine ⟨x, h1, h2, ?_⟩
 unfold argPV
 rw [zxz ha, h3]
 cases u <;> first | rfl | exact h1.elim
def zch (P : Program) (m : Nat) : List TypeId → List U → Bool
 | [], [] => true
 | t :: ts, u :: us => agree P m t u && zch P m ts us
 | _, _ => false
def wfL : (l : List U) → LT l → Prop
 | [], _ => True
 | [u], x => wfU u x
 | u :: v :: r, x => wfU u x.1 ∧ wfL (v :: r) x.2
def limL : (l : List U) → LT l → Prop
 | [], _ => True
 | [u], x => limU u x
 | u :: v :: r, x => limU u x.1 ∧ limL (v :: r) x.2
theorem zw5 {H : Type} {P : Program} {n m : Nat} : ∀ (l : List U) {ts : List TypeId} {ds : List (DataW H)}, ts.length = ds.length → (∀ (j : Nat) t d, ts[j]? = some t → ds[j]? = some d → Ab.Fits P n t d) → zch P m ts l = true →
   ∃ x : LT l, wfL l x ∧ limL l x ∧ List.zipWith (argPV P) ts ds = (z1o l x).map TV.pv ∧ (∀ a, a ∈ z1o l x → a.wf) ∧ ∀ (R : Type) (k : LT l → Option R), sealT l (z1o l x) k = k x
 | [], ts, ds, hl, hf, ha => by
   match ts, ds, hl with
   | [], [], _ => exact ⟨(), trivial, trivial, rfl, fun a h => (by cases h), fun R k => rfl⟩
   | _ :: _, _, _ => simp [zch] at ha
 | [u], ts, ds, hl, hf, ha => by
   match ts, ds, hl with
   | [], _, _ => simp [zch] at ha
   | [t], [d], _ =>
     simp only [zch, Bool.and_eq_true, and_true] at ha
     obtain ⟨x, h1, h2, h3⟩ := zzm (hf 0 t d rfl rfl) ha
     refine ⟨x, h1, h2, by simp [z1o, h3, TV.pv], fun a h => ?_, fun R k => ?_⟩
     · simp only [z1o, List.mem_singleton] at h; subst h; simpa only [TV.wf] using h1
     · simp only [z1o, sealT, sealK, zpl]
   | _ :: _ :: _, _, _ => simp [zch] at ha
 | u :: v :: r, ts, ds, hl, hf, ha => by
   match ts, ds, hl with
   | [], _, _ => simp [zch] at ha
   | t :: ts, d :: ds, hl =>
     simp only [zch, Bool.and_eq_true] at ha
     obtain ⟨x, h1, h2, h3⟩ := zzm (hf 0 t d rfl rfl) ha.1
     obtain ⟨y, g1, g2, g3, g4, g5⟩ := zw5 (v :: r) (ts := ts) (ds := ds) (by simpa using hl) (fun j t d ht hd => hf (j + 1) t d (by simpa using ht) (by simpa using hd)) ha.2
     refine ⟨(x, y), ⟨h1, g1⟩, ⟨h2, g2⟩, by simp [z1o, h3, g3, TV.pv], fun a h => ?_, fun R k => ?_⟩
     · simp only [z1o, List.mem_cons] at h
       rcases h with rfl | h
       · simpa only [TV.wf] using h1
       · exact g4 a (by simpa [z1o] using h)
     · simp only [z1o, sealT, sealK, zpl]
       exact g5 R fun y => k (x, y)
def lawX : XS := XS.one .ret (Shp.mk 1 0 [(0, .d .bool)] []).xe
def zcg (f : FuncId) (A : List Pat) : Sig := ⟨f, A, [], 0, lawX⟩
theorem z11f {H : Type} {P : Program} {f : FuncId} {n m : Nat} {A : List Pat} {law : LT (zcg f A).codes → Option Bool} {ts : List TypeId} {ds : List (DataW H)} (hE : FnOK P (zcg f A) law)
   (hargs : ∀ x, (zcg f A).args x = z1o (zcg f A).codes x)
   (hl : ts.length = ds.length) (hf : ∀ (j : Nat) t d, ts[j]? = some t → ds[j]? = some d → Ab.Fits P n t d) (ha : zch P m ts (zcg f A).codes = true)
   (h : ∀ x, wfL (zcg f A).codes x → limL (zcg f A).codes x → law x = some true) : ACalls P f (List.zipWith (argPV P) ts ds) [] 0 (fun p _ _ => p = .val (.bool true)) := by
 obtain ⟨x, h1, h2, h3, h4, h5⟩ := zw5 (zcg f A).codes hl hf ha
 have hcall := hE.calls x true (h x h1 h2) (fun t ht => h4 t (by rw [← hargs]; exact ht)) (fun o ho => by cases ho)
 rw [hargs, ← h3] at hcall
 intro w c vs g hpn0 hsz hvs
 refine (hcall w c vs g hpn0 hsz hvs).mono ?_
 rintro e w' ⟨v, p, H', c', rfl, ⟨rfl, rfl⟩, g', hv, hx⟩
 have hm : c.m = [] := List.eq_nil_of_length_eq_zero (by rw [g.len]; rfl)
 have hT : c.T = [] := Ab.noT g
 have hT' : c'.T = [] := Ab.noT g'
 refine ⟨v, _, _, [], c', rfl, rfl, g', hv, ?_⟩
 exact
     { os := hx.os, tape := hx.tape, output := hx.output, size := hx.size
       ids := fun b k h => by rw [hm] at h; simp at h
       new := hx.new
       blocks := fun k hk hkm _ => hx.blocks k hk hkm
       cells := fun k hk hkm off v _ hv => by rw [z9b (hx.blocks k hk hkm)]; exact hv
       toks := fun i k j h => by rw [hT'] at h; simp at h
       stay := fun i k j _ h => by rw [hT'] at h; simp at h
       tlen := by rw [hT, hT']; exact Nat.le_refl _
       room := hx.room
       pn := hx.pn
       ok := hx.ok }
end Go.Tm
set_option linter.unusedSimpArgs false
set_option linter.unusedVariables false
namespace Go.Tm
open Go.Ab
@[reducible] def lenW (l : List Bool) : Nat := List.length l
theorem zwj (k : IntKind) {n : Int} (h : k.min ≤ n ∧ n ≤ k.max) : k.wrap n = n := by
 revert h
 cases k <;> simp only [IntKind.min, IntKind.max, IntKind.wrap, IntKind.bits, IntKind.signed] <;> simp <;> intro h1 h2 <;> (try split) <;> omega
theorem zp6 {n : Int} (h : -9223372036854775808 ≤ n ∧ n ≤ 9223372036854775807) : W64 n = n := zwj .i64 h
theorem ltI_t {a b : Int} (h : a < b) : ltI a b = true := by simpa [ltI] using h
theorem ltI_f {a b : Int} (h : ¬ a < b) : ltI a b = false := by simpa [ltI] using h
theorem leI_t {a b : Int} (h : a ≤ b) : leI a b = true := by simpa [leI] using h
theorem leI_f {a b : Int} (h : ¬ a ≤ b) : leI a b = false := by simpa [leI] using h
theorem eqI_t {a b : Int} (h : a = b) : eqI a b = true := by simpa [eqI] using h
theorem eqI_f {a b : Int} (h : ¬ a = b) : eqI a b = false := by simpa [eqI] using h
theorem neI_t {a b : Int} (h : ¬ a = b) : neI a b = true := by simpa [neI] using h
theorem neI_f {a b : Int} (h : a = b) : neI a b = false := by simpa [neI] using h
theorem inI_t {i : Int} {n : Nat} (h : 0 ≤ i ∧ i < n) : inI i n = true := by simp [inI, leI, ltI]; omega
theorem z12i (n : Nat) : Nat.ble n n = true := Nat.ble_eq.mpr (Nat.le_refl n)
theorem beq_self (n : Nat) : Nat.beq n n = true := Nat.beq_refl n
theorem beq_t {n m : Nat} (h : n = m) : Nat.beq n m = true := by subst h; exact Nat.beq_refl n
theorem ble_t {n m : Nat} (h : n ≤ m) : Nat.ble n m = true := Nat.ble_eq.mpr h
theorem z13v {R α : Type} (l : List α) (n : Nat) (h : n = l.length) (k : List α → Option R) : winK l 0 n k = k l := by
 subst h
 unfold winK
 have : addN 0 (List.length l) = List.length l := rfl
 rw [this, z12i]
 simp [subN]
theorem z15p {R α : Type} (l : List α) (i n : Nat) (h : i + n ≤ l.length) (k : List α → Option R) : winK l i n k = k ((l.drop i).take n) := by
 unfold winK
 rw [zdr, ble_t h]; rfl
theorem z3i {R : Type} {n : Nat} (h : n ≤ 9223372036854775807) (k : Option R) : z0p n k = k := by
 unfold z0p; rw [Nat.ble_eq.mpr h]; rfl
theorem zug {R : Type} {n m nb : Nat} (h : (n + m) * nb ≤ 140737488355328) (k : Unit → Option R) : appG n m nb k = k () := by
 unfold appG; rw [Nat.ble_eq.mpr h]; rfl
theorem z15x {R : Type} {a b : List Int} (h : a.length + b.length ≤ 9223372036854775807) (k : Unit → Option R) : catG a b k = k () := by
 unfold catG; rw [Nat.ble_eq.mpr h]; rfl
theorem z15g {α : Type} {l : List α} {i : Nat} : idxI l (i : Int) = l[i]? := by
 unfold idxI; rw [leI_t (Int.natCast_nonneg i)]; simp
theorem z6m {α : Type} {l : List α} {i : Nat} (h : i < l.length) : idxI l (i : Int) = some l[i] := by
 rw [z15g, List.getElem?_eq_getElem h]
theorem zlz {l h : Int} {n : Nat} (hh : 0 ≤ l ∧ l ≤ h ∧ h ≤ n) : subOk l h n = true := by
 unfold subOk; rw [leI_t hh.1, leI_t hh.2.1, leI_t hh.2.2]; rfl
theorem zol {R α : Type} (l : List α) (k : List α → Option R) : winK l 0 l.length k = k l := z13v l _ rfl k
theorem getE {α : Type} {l : List α} {i : Nat} (h : i < l.length) : l[i]? = some l[i] := List.getElem?_eq_getElem h
theorem zos {S X : Type} (F : S → Option (S ⊕ X)) (n : Nat) (st : Nat → S) (p : Nat → Bool) (yes no : X) (last : F (st n) = some (.inr no))
   (step : ∀ i, i < n → F (st i) = some (if p i = true then .inr yes else .inl (st (i + 1)))) : loopC F (st 0) = some (if (List.range n).any p = true then yes else no) := by
 have key : ∀ k i, i + k = n → loopC F (st i) = some (if ((List.range n).drop i).any p = true then yes else no) := by
   intro k
   induction k with
   | zero =>
     intro i h
     rw [show i = n by omega, zbp, last, List.drop_eq_nil_of_le (by simp)]; rfl
   | succ k ih =>
     intro i h
     have hi : i < (List.range n).length := by simp; omega
     rw [zbp, step i (by omega), List.drop_eq_getElem_cons hi, List.getElem_range, List.any_cons]
     cases hp : p i with
     | true => rfl
     | false =>
       simp only [Bool.false_eq_true, if_false, Bool.false_or]
       exact ih (i + 1) (by omega)
 simpa using key n 0 (by omega)
theorem zzt {α : Type} (l : List α) (p : α → Bool) (q : Nat → Bool) (h : ∀ i (hi : i < l.length), q i = p l[i]) : (List.range l.length).any q = l.any p := by
 rw [Bool.eq_iff_iff, List.any_eq_true, List.any_eq_true]
 constructor
 · rintro ⟨i, hi, hq⟩
   have hi := List.mem_range.1 hi
   exact ⟨l[i], List.getElem_mem hi, by rw [← h i hi]; exact hq⟩
 · rintro ⟨x, hx, hp⟩
   obtain ⟨i, hi, rfl⟩ := List.mem_iff_getElem.1 hx
   exact ⟨i, List.mem_range.2 hi, by rw [h i hi]; exact hp⟩
theorem zrt {S X α : Type} (F : S → Option (S ⊕ X)) (l : List α) (st : Nat → S) (p : α → Bool) (yes no : X) (last : F (st l.length) = some (.inr no))
   (step : ∀ i (hi : i < l.length), F (st i) = some (if p l[i] = true then .inr yes else .inl (st (i + 1)))) : loopC F (st 0) = some (if l.any p = true then yes else no) := by
 rw [← zzt l p (fun i => if h : i < l.length then p l[i] else false) fun i hi => by simp [hi]]
 refine zos F l.length st _ yes no last fun i hi => ?_
 rw [step i hi]
 simp only [dif_pos hi]
theorem eqS_t {a b : List Int} (h : a = b) : eqS a b = true := decide_eq_true h
theorem eqS_f {a b : List Int} (h : ¬ a = b) : eqS a b = false := decide_eq_false h
end Go.Tm
set_option linter.unusedSimpArgs false
set_option linter.unusedVariables false
namespace Go.Tm
open Go.Ab
end Go.Tm