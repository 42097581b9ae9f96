import Derived.Test.YtpfjfldagldgnaaTm6to10
import Derived.Laws.Externs
set_option linter.unusedSimpArgs false
set_option linter.unusedVariables false
namespace Go.Tm
open Go.Ab
def Wk (σ σ2 : TS) : Prop := σ2.wf ∧ ∀ w c a, RelT w c σ a → ∃ c2, RelT w c2 σ2 a ∧ ∀ w0 c0, ExtP σ.p w0 c0 w c → ExtP σ.p w0 c0 w c2
theorem Wk.refl {σ : TS} (h : σ.wf) : Wk σ σ := ⟨h, fun _ c _ hr => ⟨c, hr, fun _ _ h => h⟩⟩
structure XE where
 T : Type
 fit : TS → Bool
 close : {R : Type} → TS → (T → Option R) → Option R
 st : T → TS
def XE.OK (X : XE) : Prop := ∀ (R : Type) (σ : TS) (k : X.T → Option R) (r : R), σ.wf → X.close σ k = some r → ∃ x, k x = some r ∧ Wk σ (X.st x)
structure XS where
 T : Type
 close : {R : Type} → Exit → TS → (T → Option R) → Option R
 open' : {R : Type} → T → (Exit → TS → Option R) → Option R
 at' : T → Exit × TS
structure XS.OK (X : XS) : Prop where
 close : ∀ (R : Type) (e : Exit) (σ : TS) (k : X.T → Option R) (r : R), σ.wf → X.close e σ k = some r → ∃ x, k x = some r ∧ (X.at' x).1 = e ∧ Wk σ (X.at' x).2
 open' : ∀ (R : Type) (x : X.T) (k : Exit → TS → Option R), X.open' x k = k (X.at' x).1 (X.at' x).2
def zwc : Exit → Exit → Bool
 | .normal, .normal => true
 | .ret, .ret => true
 | .exit a, .exit b => Nat.beq a b
 | _, _ => false
theorem z1do {a b : Exit} (h : zwc a b = true) : a = b := by
 unfold zwc at h
 split at h
 · rfl
 · rfl
 · rw [Nat.eq_of_beq_eq_true h]
 · cases h
def XS.one (e : Exit) (X : XE) : XS where
 T := X.T
 close := fun e' σ k => bif zwc e' e then X.close σ k else none
 open' := fun x k => k e (X.st x)
 at' := fun x => (e, X.st x)
def XS.or (e : Exit) (X : XE) (Y : XS) : XS where
 T := X.T ⊕ Y.T
 close := fun e' σ k => bif zwc e' e && X.fit σ then X.close σ (fun x => k (.inl x)) else Y.close e' σ (fun y => k (.inr y))
 open' := fun x k => Sum.elim (fun x => k e (X.st x)) (fun y => Y.open' y k) x
 at' := Sum.elim (fun x => (e, X.st x)) Y.at'
theorem XS.one_ok {e : Exit} {X : XE} (h : X.OK) : (XS.one e X).OK where
 close := fun R e' σ k r hw hc => by
   simp only [XS.one] at hc
   cases hb : zwc e' e with
   | false => rw [hb] at hc; cases hc
   | true =>
     rw [hb] at hc
     obtain ⟨x, h1, h2⟩ := h R σ k r hw hc
     exact ⟨x, h1, (z1do hb).symm, h2⟩
 open' := fun R x k => rfl
theorem XS.or_ok {e : Exit} {X : XE} {Y : XS} (h : X.OK) (g : Y.OK) : (XS.or e X Y).OK where
 close := fun R e' σ k r hw hc => by
   simp only [XS.or] at hc
   cases hb : zwc e' e && X.fit σ with
   | false =>
     rw [hb] at hc
     obtain ⟨y, h1, h2, h3⟩ := g.close R e' σ _ r hw hc
     exact ⟨.inr y, h1, h2, h3⟩
   | true =>
     rw [hb] at hc
     simp only [Bool.and_eq_true] at hb
     obtain ⟨x, h1, h2⟩ := h R σ _ r hw hc
     exact ⟨.inl x, h1, (z1do hb.1).symm, h2⟩
 open' := fun R x k => by
   cases x with
   | inl x => rfl
   | inr y => simp only [XS.or, Sum.elim_inr]; exact g.open' R y k
def putN : List (Option Nat) → Nat → Nat → List (Option Nat)
 | [], _, _ => []
 | none :: r, 0, b => some b :: r
 | some x :: r, 0, _ => some x :: r
 | x :: r, j + 1, b => x :: putN r j b
mutual
def bindP : Pat → TV → List (Option Nat) → List (Option Nat)
 | .pt j _ _, .ptr b _ _, ρ => putN ρ j b
 | .wa j _ _ _ _ _, .os b _ _ _ _ _, ρ => putN ρ j b
 | .wn j _, .os b _ _ _ _ _, ρ => putN ρ j b
 | .ws j _, .os b _ _ _ _ _, ρ => putN ρ j b
 | .rf q, .rf t, ρ => bindP q t ρ
 | .ag l, .agg ts, ρ => bindL l ts ρ
 | .tu l, .tup ts, ρ => bindL l ts ρ
 | .fn _ l, .fn _ ts, ρ => bindL l ts ρ
 | _, _, ρ => ρ
def bindL : List Pat → List TV → List (Option Nat) → List (Option Nat)
 | q :: l, t :: ts, ρ => bindL l ts (bindP q t ρ)
 | _, _, ρ => ρ
end
mutual
def objsT : TV → List Nat
 | .os b _ _ _ _ _ => [b]
 | .agg ts => objsL ts
 | .tup ts => objsL ts
 | .fn _ ts => objsL ts
 | _ => []
def objsL : List TV → List Nat
 | [] => []
 | t :: ts => objsT t ++ objsL ts
end
mutual
def frzP : Pat → TV → List Nat
 | .d _, t => objsT t
 | .rf q, .rf t => frzP q t
 | .rf _, .ptr b _ _ => [b]
 | .ag l, .agg ts => frzL l ts
 | .tu l, .tup ts => frzL l ts
 | .fn _ l, .fn _ ts => frzL l ts
 | _, _ => []
def frzL : List Pat → List TV → List Nat
 | q :: l, t :: ts => frzP q t ++ frzL l ts
 | _, _ => []
end
def z1hn (H : List TOb) : List HPat → Nat → List (Option Nat) → List (Option Nat)
 | [], _, ρ => ρ
 | h :: hs, j, ρ => z1hn H hs (j + 1) (match h, ρ[j]? with
   | .var _ q, some (some b) => match H[b]? with
     | some (.ob _ (.var t)) => bindP q t ρ
     | _ => ρ
   | _, _ => ρ)
def frzHs (H : List TOb) : List HPat → List (Option Nat) → List Nat
 | .var _ q :: hs, some b :: ρ => (match H[b]? with
   | some (.ob _ (.var t)) => frzP q t
   | _ => []) ++ frzHs H hs ρ
 | _ :: hs, _ :: ρ => frzHs H hs ρ
 | _, _ => []
def z1di : List HPat → List (Option Nat) → List (Option Nat)
 | .gone :: hs, _ :: ρ => none :: z1di hs ρ
 | _ :: hs, x :: ρ => x :: z1di hs ρ
 | _, _ => []
mutual
theorem z1db : ∀ (q : Pat) (t : TV) {ls : List TV}, z0n q t = some ls → ls.length = q.codes.length
 | .d u, t, ls, h => by simp only [z0n, Option.some.injEq] at h; subst h; rfl
 | .fs u, t, ls, h => by
   cases t <;> (try simp only [z0n] at h) <;> first | (cases h; done) | (simp only [Option.some.injEq] at h; subst h; rfl)
 | .rf q, t, ls, h => by
   cases t <;> (try simp only [z0n] at h) <;> first | (cases h; done) | skip
   exact z1db q _ h
 | .pt j r p, t, ls, h => by
   cases t <;> (try simp only [z0n] at h) <;> first | (cases h; done) | skip
   rename_i b r' p'
   cases hc : Nat.beq j b && r.beq r' && z9c p p' <;> rw [hc] at h <;> cases h
   rfl
 | .wa j r p u lo n, t, ls, h => by
   cases t <;> (try simp only [z0n] at h) <;> first | (cases h; done) | skip
   rename_i b r' p' u' lo' n'
   cases hc : Nat.beq j b && r.beq r' && z9c p p' && u.beq u' && Nat.beq lo lo' && Nat.beq n n' <;> rw [hc] at h <;> cases h
   rfl
 | .wn j u, t, ls, h => by
   cases t <;> (try simp only [z0n] at h) <;> first | (cases h; done) | skip
   · cases h; rfl
   · rename_i b r p u' lo n
     cases p with
     | cons _ _ => simp only [z0n] at h; cases h
     | nil =>
       simp only [z0n] at h
       cases hc : Nat.beq j b && u.beq u' && Nat.beq lo 0 <;> rw [hc] at h <;> cases h
       rfl
 | .ws j u, t, ls, h => by
   cases t <;> (try simp only [z0n] at h) <;> first | (cases h; done) | skip
   · cases h; rfl
   · rename_i b r p u' lo n
     cases p with
     | cons _ _ => simp only [z0n] at h; cases h
     | nil =>
       simp only [z0n] at h
       cases hc : Nat.beq j b && u.beq u' && Nat.beq lo 0 <;> rw [hc] at h <;> cases h
       rfl
 | .ag l, t, ls, h => by
   cases t <;> (try simp only [z0n] at h) <;> first | (cases h; done) | skip
   · rename_i u x
     cases u <;> (try simp only [z0n] at h) <;> first | (cases h; done) | skip
     exact zfb l _ h
   · exact zfb l _ h
 | .tu l, t, ls, h => by
   cases t <;> (try simp only [z0n] at h) <;> first | (cases h; done) | skip
   exact zfb l _ h
 | .fn f l, t, ls, h => by
   cases t <;> (try simp only [z0n] at h) <;> first | (cases h; done) | skip
   rename_i f' ts
   cases hc : Nat.beq f f' <;> rw [hc] at h <;> first | (cases h; done) | skip
   exact zfb l _ h
 | .c t0, t, ls, h => by
   simp only [z0n] at h
   cases hc : tvBeq t0 t <;> rw [hc] at h <;> cases h
   rfl
 | .on, t, ls, h => by
   simp only [z0n] at h
   cases hc : t.leafB <;> rw [hc] at h <;> cases h
   rfl
theorem zfb : ∀ (l : List Pat) (ts : List TV) {ls : List TV}, z3w l ts = some ls → ls.length = (z0b l).length
 | [], [], ls, h => by simp only [z3w, Option.some.injEq] at h; subst h; rfl
 | q :: l, t :: ts, ls, h => by
   simp only [z3w] at h
   split at h
   · rename_i a b ha hb
     cases h
     simp only [z0b, List.length_append, z1db q t ha, zfb l ts hb]
   · cases h
 | [], _ :: _, _, h => by simp [z3w] at h
 | _ :: _, [], _, h => by simp [z3w] at h
end
structure Shp where
 n : Nat
 pn : Nat
 sl : List (Nat × Pat)
 hp : List HPat
def Shp.pats (S : Shp) : List Pat := S.sl.map (·.2)
def Shp.codes (S : Shp) : List U := z0b S.pats ++ z1io S.hp
def zei : List (Nat × Pat) → List TV → List (Nat × TV)
 | (t, _) :: r, v :: vs => (t, v) :: zei r vs
 | _, _ => []
def Shp.lens (S : Shp) (vs : List TV) : Nat → Nat := getN (lensH S.hp (vs.drop (z0b S.pats).length))
def Shp.st (S : Shp) (x : LT S.codes) : TS where
 n := S.n
 slots := zei S.sl (fillL (S.lens (z2n S.codes x)) S.pats (z2n S.codes x)).1
 H := zqp (S.lens (z2n S.codes x)) S.hp ((z2n S.codes x).drop (z0b S.pats).length)
 p := S.pn
def pinR (p : Nat) : List HPat → Nat → List (Option Nat)
 | [], _ => []
 | _ :: hs, j => (bif Nat.blt j p then some j else none) :: pinR p hs (j + 1)
def Shp.ren (S : Shp) (σ : TS) : List (Option Nat) := z1di S.hp (z1hn σ.H S.hp 0 (bindL S.pats (S.sl.map fun x => σ.get x.1) (pinR S.pn S.hp 0)))
def Shp.fate (S : Shp) (σ : TS) : Nat → Fate := zay σ.p σ.H (S.ren σ) (frzL S.pats (S.sl.map fun x => σ.get x.1) ++ frzHs σ.H S.hp (S.ren σ))
def Shp.close {R : Type} (S : Shp) (σ : TS) (k : LT S.codes → Option R) : Option R :=
 match z3w S.pats (S.sl.map fun x => (σ.get x.1).mv (S.fate σ)), z9y S.hp (newH (S.fate σ) σ.H S.hp (S.ren σ)) with
 | some a, some b => bif Nat.beq σ.n S.n && Nat.beq σ.p S.pn && zci S.pn (S.ren σ) && Nat.beq S.hp.length (S.ren σ).length then
     sealT S.codes (a ++ b) fun x => zlq (S.lens (z2n S.codes x)) (zcn S.pats (S.sl.map fun x => (σ.get x.1).mv (S.fate σ)) ++ zld S.hp (newH (S.fate σ) σ.H S.hp (S.ren σ))) (k x)
   else none
 | _, _ => none
mutual
def fitP : Pat → TV → Bool
 | .d _, .v _ _ => true
 | .d (.sl _), .nil => true
 | .d (.sl _), .fsl _ _ => true
 | .d (.sl _), .osf _ _ _ _ => true
 | .d (.sl _), .os _ _ _ _ _ _ => true
 | .d (.st _), .agg _ => true
 | .fs _, .fsl _ _ => true
 | .fs _, .nil => true
 | .rf q, .rf t => fitP q t
 | .pt _ _ _, .ptr _ _ _ => true
 | .wa _ _ _ _ _ _, .os _ _ _ _ _ _ => true
 | .wn _ _, .os _ _ _ _ _ _ => true
 | .wn _ _, .nil => true
 | .ws _ _, .os _ _ _ _ _ _ => true
 | .ws _ _, .nil => true
 | .ag l, .agg ts => fitL l ts
 | .ag _, .v _ _ => true
 | .tu l, .tup ts => fitL l ts
 | .fn f l, .fn g ts => Nat.beq f g && fitL l ts
 | .c a, b => tvBeq a b
 | .on, t => t.leafB
 | _, _ => false
def fitL : List Pat → List TV → Bool
 | [], [] => true
 | q :: l, t :: ts => fitP q t && fitL l ts
 | _, _ => false
end
def fitHs (H : List TOb) : List HPat → List (Option Nat) → Bool
 | .var _ q :: hs, some b :: ρ => (match H[b]? with
   | some (.ob _ (.var t)) => fitP q t
   | _ => false) && fitHs H hs ρ
 | _ :: hs, _ :: ρ => fitHs H hs ρ
 | _, _ => true
def Shp.fit (S : Shp) (σ : TS) : Bool := fitL S.pats (S.sl.map fun x => σ.get x.1) && fitHs σ.H S.hp (S.ren σ)
def Shp.xe (S : Shp) : XE := ⟨LT S.codes, S.fit, fun σ k => S.close σ k, S.st⟩
theorem z1ck : ∀ {sl : List (Nat × Pat)} {ts vs : List TV} {t : Nat} {v' : TV}, ts.length = sl.length → vs.length = ts.length → lookT (zei sl vs) t = some v' →
   ∃ (i : Nat) (v : TV), ts[i]? = some v ∧ vs[i]? = some v' ∧ (∃ q, sl[i]? = some (t, q))
 | [], _, _, _, _, _, _, h => by simp [zei, lookT] at h
 | (s, q) :: sl, [], _, _, _, e, _, _ => by simp at e
 | (s, q) :: sl, t0 :: ts, [], _, _, _, e, _ => by simp at e
 | (s, q) :: sl, t0 :: ts, v0 :: vs, t, v', e1, e2, h => by
   simp only [zei, lookT] at h
   cases hb : Nat.beq s t with
   | true =>
     rw [hb] at h
     simp only [cond_true, Option.some.injEq] at h
     subst h
     exact ⟨0, t0, rfl, rfl, q, by rw [Nat.eq_of_beq_eq_true hb]; rfl⟩
   | false =>
     rw [hb] at h
     obtain ⟨i, v, h1, h2, h3⟩ := z1ck (sl := sl) (ts := ts) (vs := vs) (by simpa using e1) (by simpa using e2) (by simpa using h)
     exact ⟨i + 1, v, by simpa using h1, by simpa using h2, by simpa using h3⟩
theorem z1l2 {w : World} {c : Cx} {n p : Nat} {a : Act} {sl : List (Nat × Pat)} {ts ts' : List TV} {H H' : List TOb} (hr : RelT w c ⟨n, [], H, p⟩ a) (hs : ∀ (i : Nat) t v, sl[i]? = some t → ts[i]? = some v → t.1 < n → ∃ u, a.tmps[t.1]? = some u ∧ VR w c v.pv u)
   (h1 : ts.length = sl.length) (h2 : FitsL ts ts') (h3 : H'.length = H.length) (h4 : ∀ (i : Nat) o o', H[i]? = some o → H'[i]? = some o' → FitsO o o') : RelT w c ⟨n, zei sl ts', H', p⟩ a := by
 have g := hr.good
 have gd : Gd w c := ⟨_, _, g⟩
 refine ⟨hr.1, ?_, ?_⟩
 · refine Good.le g (by simp [h3, TS.flat]) fun i o1 o2 e1 e2 => ?_
   simp only [List.getElem?_map, TS.flat] at e1 e2
   cases e3 : H[i]? with
   | none => rw [e3] at e1; cases e1
   | some q =>
     cases e4 : H'[i]? with
     | none => rw [e4] at e2; cases e2
     | some q' =>
       rw [e3] at e1; rw [e4] at e2
       simp at e1 e2
       subst e1; subst e2
       exact z1a9 (h4 i q q' e3 e4)
 · refine ⟨hr.2.2.1, fun t q hlk hlt => ?_⟩
   simp only [TS.flat] at hlk hlt
   rw [zfj] at hlk
   cases hlk' : lookT (zei sl ts') t with
   | none => rw [hlk'] at hlk; cases hlk
   | some v' =>
     rw [hlk'] at hlk
     simp only [Option.map_some, Option.some.injEq] at hlk
     subst hlk
     obtain ⟨i, v, e1, e2, q, e3⟩ := z1ck h1 h2.len hlk'
     obtain ⟨u, h5, h6⟩ := hs i _ v e3 e1 hlt
     refine ⟨u, h5, ?_⟩
     have hp : (TV.pvs ts)[i]? = some v.pv := by rw [z4n, List.getElem?_map, e1]; rfl
     have hp' : (TV.pvs ts')[i]? = some v'.pv := by rw [z4n, List.getElem?_map, e2]; rfl
     exact h2.pvs.2 i _ _ hp hp' w c u gd h6
theorem z1a7 : ∀ {sl : List (Nat × Pat)} {vs : List TV} {x : Nat × TV}, x ∈ zei sl vs → x.2 ∈ vs
 | [], _, _, h => by simp [zei] at h
 | _ :: _, [], _, h => by simp [zei] at h
 | (t, q) :: sl, v :: vs, x, h => by
   simp only [zei, List.mem_cons] at h
   rcases h with rfl | h
   · simp
   · simp [z1a7 h]
theorem z0a (S : Shp) : S.xe.OK := by
 intro R σ k r hw hc
 simp only [Shp.xe] at hc ⊢
 unfold Shp.close at hc
 split at hc
 · rename_i la lb ha hb
   cases hn : Nat.beq σ.n S.n && Nat.beq σ.p S.pn && zci S.pn (S.ren σ) && Nat.beq S.hp.length (S.ren σ).length with
   | false => rw [hn] at hc; cases hc
   | true =>
     rw [hn] at hc
     simp only [Bool.and_eq_true] at hn
     have e1 := Nat.eq_of_beq_eq_true hn.1.1.1
     have e2 := Nat.eq_of_beq_eq_true hn.1.1.2
     have e3 := hn.1.2
     have e4 := Nat.eq_of_beq_eq_true hn.2
     simp only [cond_true] at hc
     -- all that is moved is right
     have la_len := zfb _ _ ha
     -- the values are right, whatever the world
     have mvw : ∀ t : TV, t.wf → (t.mv (S.fate σ)).wf ∧ (t.stores = true → (t.mv (S.fate σ)).stores = true) := fun t ht => mv_wf (fun b o h => by
       obtain ⟨_, _, _, e, he⟩ := z18n h
       exact hw.H _ (List.mem_of_getElem? he)) t ht
     have hvw : ∀ t, t ∈ (S.sl.map fun x => (σ.get x.1).mv (S.fate σ)) → t.wf := fun t ht => by
       simp only [List.mem_map] at ht
       obtain ⟨d, _, rfl⟩ := ht
       exact (mvw _ (zya hw _)).1
     have hHw : ∀ o, o ∈ newH (S.fate σ) σ.H S.hp (S.ren σ) → o.wf := fun o ho => by
       obtain ⟨j, hj⟩ := List.mem_iff_getElem?.1 ho
       rcases zod hj with ⟨_, rfl | ⟨e, u, rfl⟩⟩ | ⟨b, _, ⟨e, t, h1, rfl⟩ | ⟨e, u, l, h1, rfl⟩ | ⟨_, rfl⟩⟩
       · trivial
       · exact fun x hx => by cases hx
       · have := hw.H _ (List.mem_of_getElem? h1)
         exact ⟨(mvw t this.1).1, (mvw t this.1).2 this.2⟩
       · exact hw.H _ (List.mem_of_getElem? h1)
       · trivial
     have hlw : ∀ t, t ∈ la ++ lb → t.wf := fun t ht => by
       rcases List.mem_append.1 ht with ht | ht
       · exact zex _ _ (z3u.2 hvw) ha t ht
       · exact z10j _ _ hHw hb t ht
     obtain ⟨x, h1, h2, h3, h4⟩ := zvu S.codes _ hlw hc
     obtain ⟨h1, hg⟩ := zsc h1
     obtain ⟨hg1, hg2⟩ := hg.split
     refine ⟨x, h1, ?_⟩
     generalize hvs : z2n S.codes x = vs at h3 h4 hg1 hg2
     have sld : SldL (la ++ lb) vs := ⟨h3.symm, h4⟩
     obtain ⟨s1, s2⟩ := sld.split
     have hnS : (z0b S.pats).length = la.length := la_len.symm
     obtain ⟨ts', f1, f2⟩ := zhk (lens := S.lens vs) S.pats _ (vs.drop la.length) (z3u.2 hvw) ha s1 hg1
     rw [List.take_append_drop] at f1
     obtain ⟨f3, f4⟩ := z10r (lens := S.lens vs) (ss := vs.drop la.length) [] hHw hb s2 hg2
     rw [List.append_nil] at f3 f4
     have hst : S.st x = ⟨S.n, zei S.sl ts', zqp (S.lens vs) S.hp (vs.drop la.length), S.pn⟩ := by
       simp only [Shp.st, hvs, f1, hnS]
     rw [hst]
     refine ⟨⟨fun y hy => z3u.1 f2.wf _ (z1a7 hy), fun o ho => ?_⟩, fun w c a hr => ?_⟩
     · obtain ⟨i, hi⟩ := List.mem_iff_getElem?.1 ho
       have hlt : i < (newH (S.fate σ) σ.H S.hp (S.ren σ)).length := by rw [← f3]; exact (List.getElem?_eq_some_iff.1 hi).1
       have := f4 i _ o (List.getElem?_eq_getElem hlt) hi
       generalize (newH (S.fate σ) σ.H S.hp (S.ren σ))[i] = o0 at this
       cases o <;> cases o0 <;> first | exact this.elim | trivial | exact this.2.1
     · obtain ⟨hr2, hx⟩ := z1m8 hr hw (by rw [e2]; exact e3) (frzL S.pats (S.sl.map fun x => σ.get x.1) ++ frzHs σ.H S.hp (S.ren σ)) e4 (S.sl.map (·.1))
       refine ⟨_, ?_, hx⟩
       rw [← e1, ← e2]
       refine z1l2 (ts := S.sl.map fun x => (σ.get x.1).mv (S.fate σ)) ⟨hr2.1, hr2.2.1, ⟨hr2.2.2.1, fun t q h => by simp [TS.flat, Ab.look] at h⟩⟩ (fun i t v ht hv hlt => ?_) (by simp) f2 f3 f4
       rw [List.getElem?_map, ht] at hv
       simp only [Option.map_some, Option.some.injEq] at hv
       subst hv
       have hsz : t.1 < a.tmps.size := by rw [hr.2.2.1]; exact hlt
       have hev := hr.2.2.eval (.tmp t.1)
       simp only [AS.eval, zl2, Act.eval, Array.getD_eq_getD_getElem?, Array.getElem?_eq_getElem hsz, Option.getD_some] at hev
       exact ⟨a.tmps[t.1], by simp [hsz], (zca (z1cm hr.good hw.H hr.1 _) _ (zya hw t.1)).pv _ hev⟩
 · cases hc
end Go.Tm
set_option linter.unusedSimpArgs false
set_option linter.unusedVariables false
namespace Go.Tm
open Go.Ab
def osK {R : Type} (H : List TOb) (b : Nat) (r : Rt) (p : List Stp) (u : U) (lo n : Nat) (k : List u.T → Option R) : Option R :=
 match H[b]? with
 | some (.ob _ o) => bif Nat.beq u.size 0 then none else rowK o r p u fun l => winK l lo n k
 | _ => none
theorem z1jw {R : Type} {H : List TOb} (hw : ∀ o, o ∈ H → o.wf) {b : Nat} {r : Rt} {p : List Stp} {u : U} {lo n : Nat} {k : List u.T → Option R} {x : R} (h : osK H b r p u lo n k = some x) :
   ∃ l e o, k l = some x ∧ H[b]? = some (.ob e o) ∧ u.size ≠ 0 ∧ l.length = n ∧ (∀ y, y ∈ l → wfU u y) ∧ (o.cells.drop (r.off p + lo * u.size)).take (n * u.size) = rowU u l ∧ r.off p + lo * u.size + n * u.size ≤ o.cells.length := by
 unfold osK at h
 split at h
 · rename_i e o hb
   cases hz : Nat.beq u.size 0 with
   | true => rw [hz] at h; cases h
   | false =>
     rw [hz] at h
     simp only [cond_false] at h
     obtain ⟨l, h1, h2⟩ := z1nd (hw _ (List.mem_of_getElem? hb)) h
     obtain ⟨h3, h4, h5⟩ := z1gz h1
     have hmul : lo * u.size + n * u.size ≤ l.length * u.size := by rw [← Nat.add_mul]; exact Nat.mul_le_mul_right _ h4
     have hle := h2.le
     refine ⟨subN l lo n, e, o, h3, hb, fun e => by rw [e] at hz; simp at hz, h5, fun y hy => h2.wf y (z1il hy), ?_, by omega⟩
     rw [← z1gw h2.wf h4, ← h2.cells, zgj _ _ _ _ _ hmul]
 · cases h
theorem z1ju {P : Program} {σ : TS} {y : Operand} {b : Nat} {r : Rt} {p : List Stp} {u : U} {lo n : Nat} {l : List u.T} {e : TypeId} {o : Ob} (hy : σ.eval y = .os b r p u lo n) (hb : σ.H[b]? = some (.ob e o)) (hl : l.length = n)
   (hw : ∀ y, y ∈ l → wfU u y) (hc : (o.cells.drop (r.off p + lo * u.size)).take (n * u.size) = rowU u l) (hle : r.off p + lo * u.size + n * u.size ≤ o.cells.length) (Y : List AObj) (hY : Y[b]? = σ.flat.H[b]?) :
   SrcN P { σ.flat with H := Y } y l.length u.size (rowU u l) := by
 have ey : σ.flat.eval y = .sl b (r.off p + lo * u.size) n u.size := by rw [z0i hy (by simp)]; simp only [TV.pv]
 have := z1rl (P := P) (σ := { σ.flat with H := Y }) (y := y) (b := b) (off := r.off p + lo * u.size) (m := n) (sz := u.size) (cs := o.cells) (e := e) ey (hY.trans (flatH hb)) hle (by rw [hc]; exact z3z hw)
 rw [hc] at this
 rw [hl]; exact this
@[reducible] def subOk (l h : Int) (n : Nat) : Bool := leI 0 l && leI l h && leI h n
def subL {α : Type} (s : List α) (l h : Int) : List α := (s.drop l.toNat).take (h.toNat - l.toNat)
def bndK {R : Type} (σ : TS) (x : Option Operand) (d : Int) (k : Int → Option R) : Option R :=
 match x with
 | none => k d
 | some y => match σ.eval y with
   | .v (.int _) i => k i
   | _ => none
theorem z8u {R : Type} {σ : TS} {x : Option Operand} {d : Int} {k : Int → Option R} {r : R} (h : bndK σ x d k = some r) : ∃ i, k i = some r ∧ ∀ n, 0 ≤ d → (0 ≤ i → z1k σ.flat x d.toNat i.toNat) ∧ (n = i → True) := by
 unfold bndK at h
 split at h
 · exact ⟨d, h, fun n _ => ⟨fun _ => rfl, fun _ => trivial⟩⟩
 · rename_i y
   split at h
   · rename_i kd i hy
     exact ⟨i, h, fun n _ => ⟨fun h0 => ⟨kd, i, z0i hy (by simp), h0, rfl⟩, fun _ => trivial⟩⟩
   · cases h
theorem z1b0 {α : Type} {s : List α} {l h : Int} {x : α} (hx : x ∈ subL s l h) : x ∈ s := List.mem_of_mem_drop (List.mem_of_mem_take hx)
theorem z1sf (s : List Int) (l h : Nat) : (ba s).extract l h = ba ((s.drop l).take (h - l)) := by
 apply ByteArray.ext
 simp only [ba, ByteArray.data_extract]
 apply Array.ext'
 simp [List.extract, List.map_take, List.map_drop]
def arrIn {R : Type} (H : List TOb) (b : Nat) (r : Rt) (p : List Stp) (n : Nat) (k : U → Option R) : Option R :=
 match H[b]? with
 | some (.ob _ o) => bif r.beq o.lay then getO o p fun t => match t with
   | .v (.arr m u) _ => bif Nat.beq m n then k u else none
   | _ => none else none
 | _ => none
theorem z1cc {R : Type} {H : List TOb} (hw : ∀ o, o ∈ H → o.wf) {b : Nat} {r : Rt} {p : List Stp} {n : Nat} {k : U → Option R} {x : R} (h : arrIn H b r p n k = some x) :
   ∃ u e o, k u = some x ∧ H[b]? = some (.ob e o) ∧ r.off p + n * u.size ≤ o.cells.length := by
 unfold arrIn at h
 split at h
 · rename_i e o hb
   cases hc : r.beq o.lay with
   | false => rw [hc] at h; cases h
   | true =>
     rw [hc] at h
     have e1 := Rt.beq_eq hc
     subst e1
     simp only [cond_true] at h
     obtain ⟨t, h1, h2⟩ := zz1 o p (hw _ (List.mem_of_getElem? hb)) h
     split at h1
     · rename_i m u l
       cases hm : Nat.beq m n with
       | false => rw [hm] at h1; cases h1
       | true =>
         rw [hm] at h1
         have e2 := Nat.eq_of_beq_eq_true hm
         subst e2
         have hw2 := h2.wf
         obtain ⟨g1, g2, g3⟩ := zw6 hw2
         simp only [TV.wf, wfU] at hw2
         have := h2.le
         rw [g2, g3, hw2.1] at this
         exact ⟨u, e, o, h1, hb, this⟩
     · cases h1
 · cases h
def z1go {R : Type} (P : Program) (σ : TS) (t : TypeId) (a : TV) (lo hi mx : Option Operand) (k : TV → Option R) : Option R :=
 match mx with
 | some mx =>
   match hi, P.underlying t with
   | some hi, some (.slice e) =>
     match a with
     | .v (.sl u) s => bif fitTy P e u then bndK σ lo 0 fun l => bndK σ (some hi) 0 fun h => bndK σ (some mx) 0 fun m => bif subOk l h (List.length s) && eqI h m then k (.fsl u (subL s l h)) else none else none
     | .fsl u s => bif fitTy P e u then bndK σ lo 0 fun l => bndK σ (some hi) 0 fun h => bndK σ (some mx) 0 fun m => bif subOk l h (List.length s) && eqI h m then k (.fsl u (subL s l h)) else none else none
     | .os b r p u o n => bif fitTy P e u && !Nat.beq u.size 0 then bndK σ lo 0 fun l => bndK σ (some hi) 0 fun h => bndK σ (some mx) 0 fun m => bif subOk l h n && eqI h m then k (.os b r p u (addN o l.toNat) (h.toNat - l.toNat)) else none else none
     | _ => none
   | _, _ => none
 | none =>
   match P.underlying t, a with
   | some .string, .v .str s => bndK σ lo 0 fun l => bndK σ hi (List.length s) fun h => bif subOk l h (List.length s) then k (.v .str (subL s l h)) else none
   | some (.slice e), .v (.sl u) s => bif fitTy P e u then bndK σ lo 0 fun l => bndK σ hi (List.length s) fun h => bif subOk l h (List.length s) then k (.v (.sl u) (subL s l h)) else none else none
   | some (.slice e), .fsl u s => bif fitTy P e u then bndK σ lo 0 fun l => bndK σ hi (List.length s) fun h => bif subOk l h (List.length s) then k (.v (.sl u) (subL s l h)) else none else none
   | some (.slice e), .os b r p u o n => bif fitTy P e u && !Nat.beq u.size 0 then bndK σ lo 0 fun l => bndK σ hi n fun h => bif subOk l h n then k (.os b r p u (addN o l.toNat) (h.toNat - l.toNat)) else none else none
   | some (.pointer arr), .ptr b r p => match P.underlying arr with
     | some (.array n e) => arrIn σ.H b r p n fun u => bif fitTy P e u then bndK σ lo 0 fun l => bndK σ hi n fun h => bif subOk l h n then k (.os b r p u l.toNat (h.toNat - l.toNat)) else none else none
     | _ => none
   | some (.array n e), .ptr b r p => arrIn σ.H b r p n fun u => bif fitTy P e u then bndK σ lo 0 fun l => bndK σ hi n fun h => bif subOk l h n then k (.os b r p u l.toNat (h.toNat - l.toNat)) else none else none
   | _, _ => none
theorem z1le {R : Type} {P : Program} {o : Oper} {σ : TS} {t : TypeId} {x : Operand} {lo hi mx : Option Operand} {k : TV → Option R} {r : R} (ho : o.op = .slice t x lo hi mx) (hw : σ.wf) (h : z1go P σ t (σ.eval x) lo hi mx k = some r) :
   ∃ q, k q = some r ∧ TQ P o σ q := by
 have hwx := z0u hw x
 unfold z1go at h
 split at h
 · rename_i mx'
   generalize hx : σ.eval x = a at h hwx
   split at h
   · rename_i hi' e hu
     have slc : ∀ {u : U} {s : List u.T} {tl : Tail}, σ.flat.eval x = .tr s.length (rowU u s) tl → (∀ y, y ∈ s → wfU u y) →
         (bif fitTy P e u then bndK σ lo 0 fun l => bndK σ (some hi') 0 fun h => bndK σ (some mx') 0 fun m => bif subOk l h (List.length s) && eqI h m then k (.fsl u (subL s l h)) else none else none) = some r → ∃ q, k q = some r ∧ TQ P o σ q := by
       intro u s tl ex hws h
       cases hc : fitTy P e u with
       | false => rw [hc] at h; cases h
       | true =>
         rw [hc] at h
         simp only [cond_true] at h
         obtain ⟨l, h, hl⟩ := z8u h
         obtain ⟨hh, h, hhb⟩ := z8u h
         obtain ⟨m, h, hmb⟩ := z8u h
         cases hs : subOk l hh s.length && eqI hh m with
         | false => rw [hs] at h; cases h
         | true =>
           rw [hs] at h
           simp only [Bool.and_eq_true, decide_eq_true_eq] at hs
           obtain ⟨⟨⟨h0, h1⟩, h2⟩, h3⟩ := hs
           subst h3
           have hlb := (hl 0 (Int.le_refl 0)).1 h0
           have hhb' := (hhb 0 (Int.le_refl 0)).1 (by omega)
           have hmb' := (hmb 0 (Int.le_refl 0)).1 (by omega)
           have := fun (Y : List AObj) (hY : ∀ b, b ∈ z5j o σ → Y[b]? = σ.flat.H[b]?) => z1ku (P := P) (σ := { σ.flat with H := Y }) ho hu (z7i hc).2 ex (by rw [z7y hws]) hlb (show z1k σ.flat (some hi') s.length hh.toNat from hhb') (show z1k σ.flat (some mx') s.length hh.toNat from hmb') (by omega) (by omega)
           rw [zt6 hws (by omega), zpa (fun y hy => hws y (List.mem_of_mem_drop hy)) (by rw [List.length_drop]; omega)] at this
           refine ⟨_, h, by simp only [TV.wf]; exact fun y hy => hws y (z1b0 hy), ?_⟩
           simp only [TV.pv]
           have e1 : (subL s l hh).length = hh.toNat - l.toNat := by simp only [subL, List.length_take, List.length_drop]; omega
           rw [e1]
           exact this
     split at h
     · rename_i u s
       simp only [TV.wf, wfU] at hwx
       exact slc (by rw [z0i hx (by simp)]; rfl) hwx h
     · rename_i u s
       simp only [TV.wf] at hwx
       exact slc (by rw [z0i hx (by simp)]; rfl) hwx h
     · rename_i b rt p u o' n
       cases hc : fitTy P e u && !Nat.beq u.size 0 with
       | false => rw [hc] at h; cases h
       | true =>
         rw [hc] at h
         simp only [cond_true] at h
         simp only [Bool.and_eq_true, Bool.not_eq_true'] at hc
         obtain ⟨l, h, hl⟩ := z8u h
         obtain ⟨hh, h, hhb⟩ := z8u h
         obtain ⟨m, h, hmb⟩ := z8u h
         cases hs : subOk l hh n && eqI hh m with
         | false => rw [hs] at h; cases h
         | true =>
           rw [hs] at h
           simp only [Bool.and_eq_true, decide_eq_true_eq] at hs
           obtain ⟨⟨⟨h0, h1⟩, h2⟩, h3⟩ := hs
           subst h3
           have ex : σ.flat.eval x = .sl b (rt.off p + o' * u.size) n u.size := by rw [z0i hx (by simp)]; simp only [TV.pv]
           have hlb := (hl 0 (Int.le_refl 0)).1 h0
           have hhb' := (hhb 0 (Int.le_refl 0)).1 (by omega)
           have hmb' := (hmb 0 (Int.le_refl 0)).1 (by omega)
           have := fun (Y : List AObj) (hY : ∀ b, b ∈ z5j o σ → Y[b]? = σ.flat.H[b]?) => z1kh (P := P) (σ := { σ.flat with H := Y }) ho hu (z7i hc.1).2 (fun e => by rw [e] at hc; simp at hc) ex hlb (show z1k σ.flat (some hi') n hh.toNat from hhb') (show z1k σ.flat (some mx') n hh.toNat from hmb') (by omega) (by omega)
           refine ⟨_, h, by simp only [TV.wf], ?_⟩
           simp only [TV.pv]
           rw [zrw, Nat.add_mul, ← Nat.add_assoc]; exact this
     · cases h
   · cases h
 · generalize hx : σ.eval x = a at h hwx
   have slc : ∀ {u : U} {s : List u.T} {e : TypeId} {tl : Tail}, P.underlying t = some (.slice e) → σ.flat.eval x = .tr s.length (rowU u s) tl → (∀ y, y ∈ s → wfU u y) →
       (bif fitTy P e u then bndK σ lo 0 fun l => bndK σ hi (List.length s) fun h => bif subOk l h (List.length s) then k (.v (.sl u) (subL s l h)) else none else none) = some r → ∃ q, k q = some r ∧ TQ P o σ q := by
     intro u s e tl hu ex hws h
     cases hc : fitTy P e u with
     | false => rw [hc] at h; cases h
     | true =>
       rw [hc] at h
       simp only [cond_true] at h
       obtain ⟨l, h, hl⟩ := z8u h
       obtain ⟨hh, h, hhb⟩ := z8u h
       cases hs : subOk l hh s.length with
       | false => rw [hs] at h; cases h
       | true =>
         rw [hs] at h
         simp only [Bool.and_eq_true, decide_eq_true_eq] at hs
         obtain ⟨⟨h0, h1⟩, h2⟩ := hs
         have hlb := (hl 0 (Int.le_refl 0)).1 h0
         have hhb' := (hhb 0 (by omega)).1 (by omega)
         have := fun (Y : List AObj) (hY : ∀ b, b ∈ z5j o σ → Y[b]? = σ.flat.H[b]?) => z1n6 (P := P) (σ := { σ.flat with H := Y }) ho hu (z7i hc).2 ex (by rw [z7y hws]) hlb (show z1k σ.flat hi s.length hh.toNat by simpa using hhb') (by omega) (by omega)
         rw [zt6 hws (by omega), zpa (fun y hy => hws y (List.mem_of_mem_drop hy)) (by rw [List.length_drop]; omega)] at this
         refine ⟨_, h, by simp only [TV.wf, wfU]; exact fun y hy => hws y (z1b0 hy), ?_⟩
         simp only [TV.pv, pvU]
         have e1 : (subL s l hh).length = hh.toNat - l.toNat := by simp only [subL, List.length_take, List.length_drop]; omega
         rw [e1]
         exact this
   split at h
   · rename_i s hu
     obtain ⟨l, h, hl⟩ := z8u h
     obtain ⟨hh, h, hhb⟩ := z8u h
     cases hs : subOk l hh (List.length s) with
     | false => rw [hs] at h; cases h
     | true =>
       rw [hs] at h
       simp only [Bool.and_eq_true, decide_eq_true_eq] at hs
       obtain ⟨⟨h0, h1⟩, h2⟩ := hs
       simp only [TV.wf, wfU] at hwx
       have ex : σ.flat.eval x = .val (.string (ba s)) := by rw [z0i hx (by simp)]; rfl
       have hlb := (hl 0 (Int.le_refl 0)).1 h0
       have hhb' := (hhb 0 (by omega)).1 (by omega)
       have := fun (Y : List AObj) (hY : ∀ b, b ∈ z5j o σ → Y[b]? = σ.flat.H[b]?) => z1lh (P := P) (σ := { σ.flat with H := Y }) ho hu ex hlb (by rw [zp9]; exact show z1k σ.flat hi s.length hh.toNat by simpa using hhb') (by omega) (by rw [zp9]; omega)
       rw [z1sf] at this
       exact ⟨_, h, by simp only [TV.wf, wfU]; exact fun y hy => hwx y (z1b0 hy), this⟩
   · rename_i e u s hu
     simp only [TV.wf, wfU] at hwx
     exact slc hu (by rw [z0i hx (by simp)]; rfl) hwx h
   · rename_i e u s hu
     simp only [TV.wf] at hwx
     exact slc hu (by rw [z0i hx (by simp)]; rfl) hwx h
   · rename_i e b rt p u o' n hu
     cases hc : fitTy P e u && !Nat.beq u.size 0 with
     | false => rw [hc] at h; cases h
     | true =>
       rw [hc] at h
       simp only [cond_true] at h
       simp only [Bool.and_eq_true, Bool.not_eq_true'] at hc
       obtain ⟨l, h, hl⟩ := z8u h
       obtain ⟨hh, h, hhb⟩ := z8u h
       cases hs : subOk l hh n with
       | false => rw [hs] at h; cases h
       | true =>
         rw [hs] at h
         simp only [Bool.and_eq_true, decide_eq_true_eq] at hs
         obtain ⟨⟨h0, h1⟩, h2⟩ := hs
         have ex : σ.flat.eval x = .sl b (rt.off p + o' * u.size) n u.size := by rw [z0i hx (by simp)]; simp only [TV.pv]
         have hlb := (hl 0 (Int.le_refl 0)).1 h0
         have hhb' := (hhb 0 (by omega)).1 (by omega)
         have := fun (Y : List AObj) (hY : ∀ b, b ∈ z5j o σ → Y[b]? = σ.flat.H[b]?) => z1mx (P := P) (σ := { σ.flat with H := Y }) ho hu (z7i hc.1).2 (fun e => by rw [e] at hc; simp at hc) ex hlb (show z1k σ.flat hi n hh.toNat by simpa using hhb') (by omega) (by omega)
         refine ⟨_, h, by simp only [TV.wf], ?_⟩
         simp only [TV.pv]
         rw [zrw, Nat.add_mul, ← Nat.add_assoc]; exact this
   · rename_i arr b rt p hu
     split at h
     · rename_i n e ha
       obtain ⟨u, el, ob, h, hb, hle⟩ := z1cc hw.H h
       cases hc : fitTy P e u with
       | false => rw [hc] at h; cases h
       | true =>
         rw [hc] at h
         simp only [cond_true] at h
         obtain ⟨l, h, hl⟩ := z8u h
         obtain ⟨hh, h, hhb⟩ := z8u h
         cases hs : subOk l hh n with
         | false => rw [hs] at h; cases h
         | true =>
           rw [hs] at h
           simp only [Bool.and_eq_true, decide_eq_true_eq] at hs
           obtain ⟨⟨h0, h1⟩, h2⟩ := hs
           have ex : σ.flat.eval x = .ptr b (rt.off p) := by rw [z0i hx (by simp)]; simp only [TV.pv]
           have hlb := (hl 0 (Int.le_refl 0)).1 h0
           have hhb' := (hhb 0 (by omega)).1 (by omega)
           have := fun (Y : List AObj) (hY : ∀ b, b ∈ z5j o σ → Y[b]? = σ.flat.H[b]?) => z1lt (P := P) (σ := { σ.flat with H := Y }) ho hu ha (z7i hc).2 ex ((hY b (by simp [z5j, ho, hx, TV.root])).trans (flatH hb)) hle hlb (show z1k σ.flat hi n hh.toNat by simpa using hhb') (by omega) (by omega)
           refine ⟨_, h, by simp only [TV.wf], ?_⟩
           simp only [TV.pv]
           exact this
     · cases h
   · rename_i n e b rt p hu
     obtain ⟨u, el, ob, h, hb, hle⟩ := z1cc hw.H h
     cases hc : fitTy P e u with
     | false => rw [hc] at h; cases h
     | true =>
       rw [hc] at h
       simp only [cond_true] at h
       obtain ⟨l, h, hl⟩ := z8u h
       obtain ⟨hh, h, hhb⟩ := z8u h
       cases hs : subOk l hh n with
       | false => rw [hs] at h; cases h
       | true =>
         rw [hs] at h
         simp only [Bool.and_eq_true, decide_eq_true_eq] at hs
         obtain ⟨⟨h0, h1⟩, h2⟩ := hs
         have ex : σ.flat.eval x = .ptr b (rt.off p) := by rw [z0i hx (by simp)]; simp only [TV.pv]
         have hlb := (hl 0 (Int.le_refl 0)).1 h0
         have hhb' := (hhb 0 (by omega)).1 (by omega)
         have := fun (Y : List AObj) (hY : ∀ b, b ∈ z5j o σ → Y[b]? = σ.flat.H[b]?) => z1lb (P := P) (σ := { σ.flat with H := Y }) ho hu (z7i hc).2 ex ((hY b (by simp [z5j, ho, hx, TV.root])).trans (flatH hb)) hle hlb (show z1k σ.flat hi n hh.toNat by simpa using hhb') (by omega) (by omega)
         refine ⟨_, h, by simp only [TV.wf], ?_⟩
         simp only [TV.pv]
         exact this
   · cases h
def appG {R : Type} (n m nb : Nat) (k : Unit → Option R) : Option R := bif Nat.ble ((n + m) * nb) 140737488355328 then k () else none
theorem z1f7 {s : List Int} (hs : zi9 s) : ((ba s).data.toList.map fun b => PV.val (.int .u8 b.toNat)) = rowU (.int .u8) s := by
 simp only [ba, rowU, cellU, List.map_map]
 have key : ∀ l : List Int, (∀ x, x ∈ l → 0 ≤ x ∧ x < 256) → l.map ((fun b : UInt8 => PV.val (.int .u8 b.toNat)) ∘ fun n : Int => UInt8.ofNat n.toNat) = l.flatMap fun x => [PV.val (.int .u8 x)] := by
   intro l
   induction l with
   | nil => intro _; rfl
   | cons x l ih =>
     intro hl
     have hx := hl x (by simp)
     simp only [List.map_cons, List.flatMap_cons, Function.comp, List.singleton_append, List.cons.injEq, PV.val.injEq, Value.int.injEq, true_and]
     refine ⟨by simp; omega, ?_⟩
     have := ih (fun z hz => hl z (by simp [hz]))
     simpa [Function.comp] using this
 exact key s hs
theorem z1gj {s : List Int} (hs : zi9 s) : ∀ x, x ∈ s → wfU (.int .u8) x := fun x hx => by
 have := hs x hx
 simp only [wfU]; exact ⟨by show (0 : Int) ≤ x; omega, by show x ≤ 255; omega⟩
def srcK {R : Type} (P : Program) (H : List TOb) (t2 : TypeId) (u : U) (b : TV) (k : List u.T → Option R) : Option R :=
 bif srcTy P t2 then
   match b with
   | .v (.sl v) l => castK (.sl v) (.sl u) l k
   | .fsl v l => castK (.sl v) (.sl u) l k
   | .nil => k []
   | .os b r p v lo n => osK H b r p v lo n fun l => castK (.sl v) (.sl u) l k
   | .v .str s => castK (.sl (.int .u8)) (.sl u) s k
   | _ => none
 else none
theorem z1hj {R : Type} {P : Program} {σ : TS} (hw : σ.wf) {t2 : TypeId} {u : U} {y : Operand} {k : List u.T → Option R} {r : R} (h : srcK P σ.H t2 u (σ.eval y) k = some r) :
   ∃ m, k m = some r ∧ (∀ x, x ∈ m → wfU u x) ∧ srcTy P t2 = true ∧ ∀ Y : List AObj, (∀ b, b ∈ (σ.eval y).root → Y[b]? = σ.flat.H[b]?) → SrcN P { σ.flat with H := Y } y m.length u.size (rowU u m) := by
 have hwy := z0u hw y
 unfold srcK at h
 cases hc : srcTy P t2 with
 | false => rw [hc] at h; cases h
 | true =>
   rw [hc] at h
   simp only [cond_true] at h
   generalize hy : σ.eval y = b at h hwy ⊢
   split at h
   · rename_i v l
     obtain ⟨e, h⟩ := z2x h
     cases e
     simp only [TV.wf, wfU] at hwy
     exact ⟨l, h, hwy, rfl, fun Y _ => z18v (σ := { σ.flat with H := Y }) ((z0i hy (by simp)).trans rfl) (z7y hwy) (z3z hwy)⟩
   · rename_i v l
     obtain ⟨e, h⟩ := z2x h
     cases e
     simp only [TV.wf] at hwy
     exact ⟨l, h, hwy, rfl, fun Y _ => z18v (σ := { σ.flat with H := Y }) ((z0i hy (by simp)).trans rfl) (z7y hwy) (z3z hwy)⟩
   · exact ⟨[], h, fun x hx => (by cases hx), rfl, fun Y _ => z18v (σ := { σ.flat with H := Y }) ((z0i hy (by simp)).trans rfl) (by simp [rowU]) (fun p hp => by simp [rowU] at hp)⟩
   · rename_i b' rt p v lo n
     obtain ⟨l, e, o, h1, h2, h3, h4, h5, h6, h7⟩ := z1jw hw.H h
     obtain ⟨e', h1⟩ := z2x h1
     cases e'
     exact ⟨l, h1, h5, rfl, fun Y hY => z1ju hy h2 h4 h5 h6 h7 Y (hY _ (by simp [hy, TV.root]))⟩
   · rename_i s
     obtain ⟨e, h⟩ := z2x h
     cases e
     simp only [TV.wf, wfU] at hwy
     have := fun (Y : List AObj) (_ : ∀ b, b ∈ (TV.v U.str s).root → Y[b]? = σ.flat.H[b]?) => z1qd (P := P) (σ := { σ.flat with H := Y }) (y := y) (s := ba s) ((z0i hy (by simp)).trans rfl)
     simp only [z1f7 hwy, zp9] at this
     exact ⟨s, h, z1gj hwy, rfl, this⟩
   · cases h
def zoh {R : Type} (P : Program) (H : List TOb) (t t2 : TypeId) (u : U) (l : List u.T) (b : TV) (k : List u.T → Option R) : Option R :=
 match P.underlying t with
 | some (.slice e) =>
   match z9t P e, (P.info? e).map (·.bytes) with
   | some z, some nb => bif fitTy P e u && !Nat.beq nb 0 && Nat.beq z.length u.size then srcK P H t2 u b fun m => appG l.length m.length nb fun _ => k m else none
   | _, _ => none
 | _ => none
structure AppOK (P : Program) (σ : TS) (t t2 : TypeId) (y : Operand) (u : U) (n : Nat) (m : List u.T) (e : TypeId) (nb : Nat) : Prop where
 ty : P.underlying t = some (.slice e)
 el : ElemT P e u.size nb
 src : srcTy P t2 = true
 wf : ∀ x, x ∈ m → wfU u x
 le : (n + m.length) * nb ≤ 2 ^ 47
 srcN : ∀ Y : List AObj, (∀ b, b ∈ (σ.eval y).root → Y[b]? = σ.flat.H[b]?) → SrcN P { σ.flat with H := Y } y m.length u.size (rowU u m)
theorem zu8 {R : Type} {P : Program} {σ : TS} {t t2 : TypeId} {y : Operand} {u : U} {l : List u.T} {k : List u.T → Option R} {r : R} (hw : σ.wf) (h : zoh P σ.H t t2 u l (σ.eval y) k = some r) : ∃ m e nb, k m = some r ∧ AppOK P σ t t2 y u l.length m e nb := by
 unfold zoh at h
 split at h
 · rename_i e hu
   split at h
   · rename_i z nb hz hnb
     cases hc : fitTy P e u && !Nat.beq nb 0 && Nat.beq z.length u.size with
     | false => rw [hc] at h; cases h
     | true =>
       rw [hc] at h
       simp only [cond_true] at h
       simp only [Bool.and_eq_true, Bool.not_eq_true'] at hc
       obtain ⟨m, h, hm, hs, hsrc⟩ := z1hj hw h
       unfold appG at h
       cases hb : Nat.ble ((l.length + m.length) * nb) 140737488355328 with
       | false => rw [hb] at h; cases h
       | true =>
         rw [hb] at h
         exact ⟨m, e, nb, h, hu, ⟨(z7i hc.1.1).2, hnb, fun e0 => by rw [e0] at hc; simp at hc, z, hz, Nat.eq_of_beq_eq_true hc.2⟩, hs, hm, by have := Nat.le_of_ble_eq_true hb; omega, hsrc⟩
   · cases h
 · cases h
def z1dt {R : Type} (P : Program) (H : List TOb) (xs : List TV) (ts : List TypeId) (k : TV → Option R) : Option R :=
 match xs, ts with
 | [.nil, b], [t, t2] => match P.underlying t with
   | some (.slice e) => match zia P zgu e with
     | some u => zoh P H t t2 u [] b fun m => k (.v (.sl u) m)
     | none => none
   | _ => none
 | [.fsl u l, b], [t, t2] => zoh P H t t2 u l b fun m => k (.v (.sl u) (l ++ m))
 | _, _ => none
theorem z14x {R : Type} {P : Program} {o : Oper} {σ : TS} {t t2 : TypeId} {x y : Operand} {u : U} {l : List u.T} {k : List u.T → Option R} {r : R} (ho : o.op = .call { callee := .builtin .append, args := #[x, y], argTypes := #[t, t2] }) (hw : σ.wf)
   (hx : σ.flat.eval x = .tr l.length (rowU u l) .full) (hl : ∀ x, x ∈ l → wfU u x) (h : zoh P σ.H t t2 u l (σ.eval y) k = some r) : ∃ m, k m = some r ∧ TQ P o σ (.v (.sl u) (l ++ m)) := by
 obtain ⟨m, e, nb, h1, h2⟩ := zu8 hw h
 have hall : ∀ x, x ∈ l ++ m → wfU u x := fun x hx => (List.mem_append.1 hx).elim (hl x) (h2.wf x)
 have := fun (Y : List AObj) (hY : ∀ b, b ∈ z5j o σ → Y[b]? = σ.flat.H[b]?) => z1p0 (P := P) (σ := { σ.flat with H := Y }) ho h2.ty h2.el h2.src hx (z7y hl) (h2.srcN Y fun b hb => hY b (by simp [z5j, ho, hb])).ok h2.le
 refine ⟨m, h1, by simp only [TV.wf, wfU]; exact hall, ?_⟩
 simp only [TV.pv, pvU]
 rw [List.length_append]
 have e1 : List.flatMap (fun x => cellU u x) (l ++ m) = rowU u l ++ rowU u m := z10i l m
 rw [e1]; exact this
theorem zy1 {σ : TS} {xs : Array Operand} {a b : TV} (h : xs.toList.map σ.eval = [a, b]) : ∃ x y, xs = #[x, y] ∧ σ.eval x = a ∧ σ.eval y = b := by
 obtain ⟨x, l', h1, h2, h3⟩ := List.map_eq_cons_iff.1 h
 obtain ⟨y, l'', g1, g2, g3⟩ := List.map_eq_cons_iff.1 h3
 have := List.map_eq_nil_iff.1 g3
 subst this; subst g1
 exact ⟨x, y, z8e h1, h2, g2⟩
theorem z1j8 {R : Type} {P : Program} {o : Oper} {σ : TS} {xs : Array Operand} {ts : Array TypeId} {k : TV → Option R} {r : R} (ho : o.op = .call { callee := .builtin .append, args := xs, argTypes := ts }) (hw : σ.wf)
   (h : z1dt P σ.H (xs.toList.map σ.eval) ts.toList k = some r) : ∃ q, k q = some r ∧ TQ P o σ q := by
 unfold z1dt at h
 generalize hm : xs.toList.map σ.eval = m at h
 generalize hts : ts.toList = l at h
 split at h
 · rename_i b t t2
   obtain ⟨x, y, rfl, hx, hy⟩ := zy1 hm
   have e := z8e hts; subst e
   split at h
   · split at h
     · rename_i u _
       rw [← hy] at h
       obtain ⟨m', h1, h2⟩ := z14x ho hw (by rw [z0i hx (by simp)]; rfl) (fun x hx => by cases hx) h
       exact ⟨_, h1, h2⟩
     · cases h
   · cases h
 · rename_i u l' b t t2
   obtain ⟨x, y, rfl, hx, hy⟩ := zy1 hm
   have e := z8e hts; subst e
   rw [← hy] at h
   have hwx := z0u hw x
   rw [hx] at hwx
   simp only [TV.wf] at hwx
   obtain ⟨m', h1, h2⟩ := z14x ho hw (by rw [z0i hx (by simp)]; rfl) hwx h
   exact ⟨_, h1, h2⟩
 · cases h
def textK {R : Type} (H : List TOb) (a : TV) (k : List Int → Option R) : Option R :=
 match a with
 | .v (.sl (.int .u8)) l => k l
 | .fsl (.int .u8) l => k l
 | .nil => k []
 | .os b r p u lo n => osK H b r p u lo n fun l => castK (.sl u) (.sl (.int .u8)) l k
 | _ => none
def zt0 (P : Program) (s : TypeId) : Bool :=
 match P.underlying s with
 | some (.slice e) => match P.underlying e with
   | some (.int .u8) => true
   | _ => false
 | _ => false
theorem z10n {P : Program} {s : TypeId} (h : zt0 P s = true) : ∃ e, P.underlying s = some (.slice e) ∧ P.underlying e = some (.int .u8) := by
 unfold zt0 at h
 split at h
 · rename_i e he
   split at h
   · rename_i h2; exact ⟨e, he, h2⟩
   · cases h
 · cases h
def z1ib {R : Type} (P : Program) (H : List TOb) (s t : TypeId) (a : TV) (k : TV → Option R) : Option R :=
 match P.underlying t with
 | some .string => bif zt0 P s then textK H a fun l => k (.v .str l) else convK P s t a k
 | _ => convK P s t a k
theorem z13i : ∀ l : List Int, rowU (.int .u8) l = l.map fun n => .val (.int .u8 n)
 | [] => rfl
 | n :: l => by
   have ih := z13i l
   simp only [rowU, List.flatMap_cons, cellU, List.map_cons, List.singleton_append] at ih ⊢
   rw [ih]
theorem z1o1 {R : Type} {P : Program} {σ : TS} (hw : σ.wf) {x : Operand} {k : List Int → Option R} {r : R} (h : textK σ.H (σ.eval x) k = some r) :
   ∃ l, k l = some r ∧ zi9 l ∧ (∀ Y : List AObj, (∀ b, b ∈ (σ.eval x).root → Y[b]? = σ.flat.H[b]?) → SrcN P { σ.flat with H := Y } x l.length 1 (l.map fun n => .val (.int .u8 n))) ∧ ∀ w c (a : Act) Y, RelC w c { σ.flat with H := Y } a → ∃ ad cap, a.eval x = .slice ad l.length cap := by
 have hwx := z0u hw x
 unfold textK at h
 generalize hx : σ.eval x = a at h hwx ⊢
 have byte : ∀ {l : List Int}, (∀ n, n ∈ l → wfU (.int .u8) n) → zi9 l := fun hl n hn => by
   have := hl n hn
   simp only [wfU] at this
   have h1 : (0 : Int) ≤ n := this.1
   have h2 : n ≤ 255 := this.2
   omega
 have tr : ∀ {l : List Int} {tl : Tail}, σ.flat.eval x = .tr l.length (rowU (.int .u8) l) tl → (∀ n, n ∈ l → wfU (.int .u8) n) →
     (∀ Y : List AObj, SrcN P { σ.flat with H := Y } x l.length 1 (l.map fun n => .val (.int .u8 n))) ∧ ∀ w c (a : Act) Y, RelC w c { σ.flat with H := Y } a → ∃ ad cap, a.eval x = .slice ad l.length cap := fun {l tl} ex hl => by
   refine ⟨fun Y => ?_, fun w c a Y hr => ?_⟩
   · have := z18v (P := P) (σ := { σ.flat with H := Y }) (sz := 1) ex (z7y hl) (z3z hl)
     rw [z13i] at this; exact this
   · have hv := hr.2.eval x
     rw [show AS.eval { σ.flat with H := Y } x = _ from ex] at hv
     exact z1iz hv
 split at h
 · rename_i l
   simp only [TV.wf, wfU] at hwx
   obtain ⟨h1, h2⟩ := tr (tl := .no) (by rw [z0i hx (by simp)]; rfl) hwx
   exact ⟨l, h, byte hwx, fun Y _ => h1 Y, h2⟩
 · rename_i l
   simp only [TV.wf] at hwx
   obtain ⟨h1, h2⟩ := tr (tl := .full) (by rw [z0i hx (by simp)]; rfl) hwx
   exact ⟨l, h, byte hwx, fun Y _ => h1 Y, h2⟩
 · obtain ⟨h1, h2⟩ := tr (l := []) (tl := .full) (by rw [z0i hx (by simp)]; rfl) (fun n hn => by cases hn)
   exact ⟨[], h, fun n hn => (by cases hn), fun Y _ => h1 Y, h2⟩
 · rename_i b rt p u lo n
   obtain ⟨l, e, o, h1, h2, h3, h4, h5, h6, h7⟩ := z1jw hw.H h
   obtain ⟨e', h1⟩ := z2x h1
   cases e'
   refine ⟨l, h1, byte h5, fun Y hY => ?_, fun w c a Y hr => ?_⟩
   · have := z1ju (P := P) hx h2 h4 h5 h6 h7 Y (hY _ (by simp [TV.root]))
     rw [z13i] at this; exact this
   · have hv := hr.2.eval x
     have ex : σ.flat.eval x = .sl b (rt.off p + lo * (U.int IntKind.u8).size) n (U.int IntKind.u8).size := by rw [z0i hx (by simp)]; simp only [TV.pv]
     rw [show AS.eval { σ.flat with H := Y } x = _ from ex] at hv
     rw [h4]; exact z19m hv
 · cases h
theorem z1l7 {R : Type} {P : Program} {o : Oper} {σ : TS} {s t : TypeId} {x : Operand} {k : TV → Option R} {r : R} (ho : o.op = .convert s t x) (hw : σ.wf) (h : z1ib P σ.H s t (σ.eval x) k = some r) : ∃ q, k q = some r ∧ TQ P o σ q := by
 unfold z1ib at h
 split at h
 · rename_i ht
   cases hb : zt0 P s with
   | false => rw [hb] at h; exact z1fi ho hw h
   | true =>
     rw [hb] at h
     simp only [cond_true] at h
     obtain ⟨e, he1, he2⟩ := z10n hb
     obtain ⟨l, h1, h2, h3, h4⟩ := z1o1 (P := P) hw h
     refine ⟨_, h1, by simp only [TV.wf, wfU]; exact h2, fun Y hY => ?_⟩
     have := z1sh (P := P) (σ := { σ.flat with H := Y }) ho he1 he2 ht (h3 Y fun b hb => hY b (by simp only [z5j, ho]; exact hb)) (fun w c a hr => h4 w c a Y hr)
     exact this
 · exact z1fi ho hw h
end Go.Tm
set_option linter.unusedSimpArgs false
set_option linter.unusedVariables false
namespace Go.Tm
open Go.Ab
def viewO : Nat → List TOb → Nat → Fate
 | 0, _, _ => .gone
 | n + 1, H, b => match H[b]? with
   | some (.ob _ (.row u l)) => .fz (.row u l)
   | some (.ob _ (.var t)) => .fz (.var (t.mv (viewO n H)))
   | _ => .gone
theorem z1dp : ∀ (n : Nat) (H : List TOb) (b : Nat), (viewO n H b).name = none
 | 0, _, _ => rfl
 | n + 1, H, b => by
   simp only [viewO]
   split <;> rfl
def zf5 : Cx := ⟨[], [], fun _ _ => True, 0⟩
theorem z1f5 {w : World} {c : Cx} {H : List AObj} {ts : List Bool} (g : Ab.Good w c H ts) : Ab.Good w zf5 [] [] where
 len := rfl
 inj := fun i j k h => by simp [zf5] at h
 obj := fun b o h => by simp at h
 tl := rfl
 tal := fun i h => by simp at h
 tdead := fun i h => by simp at h
 tok := fun i k j h => by simp [zf5] at h
 tinj := fun i i' k j j' h => by simp [zf5] at h
 okn := fun _ _ _ => trivial
 okm := fun _ _ _ _ _ => trivial
 okt := fun i k j h => by simp [zf5] at h
 oko := fun _ _ _ h => by simp [zf5] at h
 gl := g.gl.sub (fun k h => by simp [zf5] at h) fun i k j h => by simp [zf5] at h
theorem z18r {H : List TOb} (hw : ∀ o, o ∈ H → o.wf) : ∀ (n : Nat) b o, viewO n H b = .fz o → o.wf
 | 0, b, o, h => by simp [viewO] at h
 | n + 1, b, o, h => by
   simp only [viewO] at h
   split at h
   · rename_i e u l hb; cases h; exact hw _ (List.mem_of_getElem? hb)
   · rename_i e t hb
     cases h
     have := hw _ (List.mem_of_getElem? hb)
     have m := mv_wf (z18r hw n) t this.1
     exact ⟨m.1, m.2 this.2⟩
   · cases h
theorem z1jm {w : World} {c : Cx} {H : List TOb} {Y : List AObj} (hY : ∀ b, b < H.length → Y[b]? = (H.map TOb.flat)[b]?) (g : Ab.Good w c Y []) (hw : ∀ o, o ∈ H → o.wf) : ∀ n, MvH (viewO n H) w c w zf5
 | 0 => ⟨⟨Ab.noT g, fun b j k h => by simp [z1dp] at h, fun a n h => by
     rcases h with h | ⟨h1, h2, h3, h4, h5⟩
     · exact .inl h
     · exact .inr ⟨h1, h2, by simp [zf5], fun i k h => by simp [zf5] at h, trivial⟩, fun a n _ i v _ hv => hv, fun k vs e fr h => ⟨vs, fr, h, rfl⟩⟩, z18r hw 0, fun b o k h => by simp [viewO] at h⟩
 | n + 1 => by
   have ih := z1jm hY g hw n
   have at' : ∀ {b : Nat} {e : TypeId} {o : Ob}, H[b]? = some (.ob e o) → Y[b]? = some (.row o.cells e) := fun {b e o} hb => by
     rw [hY b (List.getElem?_eq_some_iff.1 hb).1, List.getElem?_map, hb]; rfl
   refine ⟨⟨Ab.noT g, fun b j k h => by simp [z1dp] at h, ih.base.foot, fun a n _ i v _ hv => hv, fun k vs e fr h => ⟨vs, fr, h, rfl⟩⟩, z18r hw (n + 1), fun b o k h hk => ?_⟩
   have hlt := ObjC.lt g hk
   refine ⟨fun off m => .inr ⟨rfl, hlt, by simp [zf5], fun i k h => by simp [zf5] at h, trivial⟩, ?_⟩
   simp only [viewO] at h
   split at h
   · rename_i e u l hb
     cases h
     obtain ⟨vs, fr, h4, h5, h6, h7, h8⟩ := (g.obj b _ (at' hb)).row hk
     exact ⟨vs, e, fr, h4, VRs.transfer (fun a n h => ih.base.foot a n h) _ (z7r (hw _ (List.mem_of_getElem? hb))) h8⟩
   · rename_i e t hb
     cases h
     obtain ⟨vs, fr, h4, h5, h6, h7, h8⟩ := (g.obj b _ (at' hb)).row hk
     exact ⟨vs, e, fr, h4, (zca ih t (hw _ (List.mem_of_getElem? hb)).1).cells _ h8⟩
   · cases h
mutual
def U.flat : U → Bool
 | .int _ | .bool | .str => true
 | .arr _ u => u.flat
 | .st us => us.flat
 | _ => false
def Us.flat : Us → Bool
 | .one u => u.flat
 | .cons u us => u.flat && us.flat
end
mutual
def Fl : PV → Prop
 | .val _ => True
 | .agg cs => Fls cs
 | .tup cs => Fls cs
 | .fn _ caps => Fls caps
 | .ifc _ p => Fl p
 | .one => True
 | .dead => True
 | _ => False
def Fls : List PV → Prop
 | [] => True
 | p :: ps => Fl p ∧ Fls ps
end
theorem zlv : ∀ {ps : List PV}, Fls ps ↔ ∀ p, p ∈ ps → Fl p
 | [] => by simp [Fls]
 | p :: ps => by simp [Fls, zlv (ps := ps)]
mutual
theorem Fl.to {w : World} {c : Cx} {w' : World} {c' : Cx} : ∀ (p : PV) {v : Value}, Fl p → VR w c p v → VR w' c' p v
 | .val _, _, _, h => by simp only [VR] at h ⊢; exact h
 | .ptr _ _, _, hf, _ | .fz _, _, hf, _ | .sl _ _ _ _, _, hf, _ | .tr _ _ _, _, hf, _ => by simp only [Fl] at hf
 | .fn f caps, _, hf, h => by
   simp only [Fl] at hf
   simp only [VR] at h ⊢
   obtain ⟨cv, h1, h2, h3⟩ := h
   exact ⟨cv, h1, h2, Fls.to caps hf h3⟩
 | .agg cs, _, hf, h => by
   simp only [Fl] at hf
   simp only [VR] at h ⊢
   obtain ⟨cv, h1, h2, h4, h3⟩ := h
   exact ⟨cv, h1, h2, h4, Fls.to cs hf h3⟩
 | .tup cs, _, hf, h => by
   simp only [Fl] at hf
   simp only [VR] at h ⊢
   obtain ⟨cv, h1, h2, h3⟩ := h
   exact ⟨cv, h1, h2, Fls.to cs hf h3⟩
 | .ifc t p, _, hf, h => by
   simp only [Fl] at hf
   simp only [VR] at h ⊢
   obtain ⟨v, h1, h2⟩ := h
   exact ⟨v, h1, Fl.to p hf h2⟩
 | .one, _, _, h => by simp only [VR] at h ⊢; exact h
 | .dead, _, _, _ => by simp only [VR]
theorem Fls.to {w : World} {c : Cx} {w' : World} {c' : Cx} : ∀ (ps : List PV) {f : Nat → Option Value}, Fls ps → VRs w c ps f → VRs w' c' ps f
 | [], _, _, _ => by simp only [VRs]
 | p :: ps, f, hf, h => by
   simp only [Fls] at hf
   simp only [VRs] at h ⊢
   obtain ⟨⟨v, h1, h2⟩, h3⟩ := h
   exact ⟨⟨v, h1, Fl.to p hf.1 h2⟩, Fls.to ps hf.2 h3⟩
end
mutual
theorem zvl : ∀ (u : U) (x : u.T), u.flat = true → Fls (cellU u x)
 | .int _, _, _ | .bool, _, _ | .str, _, _ => by simp [cellU, Fls, Fl]
 | .leaf, _, h | .sl _, _, h => by simp [U.flat] at h
 | .st us, x, h => by
   simp only [U.flat] at h
   simp only [cellU]
   exact z19q us x h
 | .arr n u, l, h => by
   simp only [U.flat] at h
   simp only [cellU]
   refine zlv.2 fun p hp => ?_
   simp only [List.mem_flatMap] at hp
   obtain ⟨y, hy, hp⟩ := hp
   exact zlv.1 (zvl u y h) p hp
theorem z19q : ∀ (us : Us) (x : us.T), us.flat = true → Fls (z1o us x)
 | .one u, x, h => by
   simp only [Us.flat] at h
   simp only [z1o]
   exact zvl u x h
 | .cons u us, x, h => by
   simp only [Us.flat, Bool.and_eq_true] at h
   simp only [z1o]
   refine zlv.2 fun p hp => ?_
   rcases List.mem_append.1 hp with hp | hp
   · exact zlv.1 (zvl u x.1 h.1) p hp
   · exact zlv.1 (z19q us x.2 h.2) p hp
end
mutual
def TV.flatB : TV → Bool
 | .v u _ => u.flat
 | .agg ts => z12n ts
 | .tup ts => z12n ts
 | .fn _ ts => z12n ts
 | .ifc _ x => x.flatB
 | .nilp | .nilf | .yl _ | .nili | .nilm | .one => true
 | _ => false
def z12n : List TV → Bool
 | [] => true
 | t :: ts => t.flatB && z12n ts
end
mutual
def TV.pureB : TV → Bool
 | .ptr _ _ _ | .os _ _ _ _ _ _ => false
 | .rf t => t.pureB
 | .agg ts => zc1 ts
 | .tup ts => zc1 ts
 | .fn _ ts => zc1 ts
 | .ifc _ x => x.pureB
 | _ => true
def zc1 : List TV → Bool
 | [] => true
 | t :: ts => t.pureB && zc1 ts
end
mutual
theorem zvd : ∀ t : TV, t.wf → t.flatB = true → Fl t.pv ∧ Fls t.cells
 | .v u x, hw, h => by
   simp only [TV.wf] at hw
   simp only [TV.flatB] at h
   have hc := zvl u x h
   rw [z8k u x hw]
   refine ⟨?_, hc⟩
   simp only [TV.pv]
   cases hg : u.isAgg with
   | true => rw [zw7 x hg]; simp only [Fl]; exact hc
   | false => rw [zs9 x hg] at hc; simp only [Fls] at hc; exact hc.1
 | .agg ts, hw, h => by
   simp only [TV.wf] at hw
   simp only [TV.flatB] at h
   have := (zse ts hw.2.1 h).2
   exact ⟨by simp only [TV.pv, Fl]; exact this, by rw [zde]; exact this⟩
 | .tup ts, hw, h => by
   simp only [TV.wf] at hw
   simp only [TV.flatB] at h
   have := (zse ts hw h).1
   have h2 : Fl (TV.tup ts).pv := by simp only [TV.pv, Fl]; exact this
   exact ⟨h2, show Fls [_] from ⟨h2, trivial⟩⟩
 | .fn f ts, hw, h => by
   simp only [TV.wf] at hw
   simp only [TV.flatB] at h
   have := (zse ts hw h).1
   have h2 : Fl (TV.fn f ts).pv := by simp only [TV.pv, Fl]; exact this
   exact ⟨h2, show Fls [_] from ⟨h2, trivial⟩⟩
 | .ifc t x, hw, h => by
   simp only [TV.wf] at hw
   simp only [TV.flatB] at h
   have := (zvd x hw h).1
   have h2 : Fl (TV.ifc t x).pv := by simp only [TV.pv, Fl]; exact this
   exact ⟨h2, show Fls [_] from ⟨h2, trivial⟩⟩
 | .nilp, _, _ | .nilf, _, _ | .yl _, _, _ | .nili, _, _ | .nilm, _, _ | .one, _, _ => by simp [TV.pv, TV.cells, cellsOf, Fls, Fl]
 | .ptr _ _ _, _, h | .os _ _ _ _ _ _, _, h | .rf _, _, h | .nil, _, h | .fsl _ _, _, h | .osf _ _ _ _, _, h | .dead, _, h => by simp [TV.flatB] at h
theorem zse : ∀ ts : List TV, TV.wfs ts → z12n ts = true → Fls (TV.pvs ts) ∧ Fls (TV.cellsL ts)
 | [], _, _ => by simp [TV.pvs, TV.cellsL, Fls]
 | t :: ts, hw, h => by
   simp only [TV.wfs] at hw
   simp only [z12n, Bool.and_eq_true] at h
   have h1 := zvd t hw.1 h.1
   have h2 := zse ts hw.2 h.2
   refine ⟨by simp only [TV.pvs, Fls]; exact ⟨h1.1, h2.1⟩, ?_⟩
   rw [z2q]
   refine zlv.2 fun p hp => ?_
   rcases List.mem_append.1 hp with hp | hp
   · exact zlv.1 h1.2 p hp
   · exact zlv.1 h2.2 p hp
end
mutual
theorem z4r : ∀ t : TV, t.wf → t.pureB = true → Ab.Pure t.pv ∧ Pures t.cells
 | .v u x, hw, _ => by
   simp only [TV.wf] at hw
   rw [z8k u x hw]
   exact ⟨by simp only [TV.pv]; exact z1qe u x hw, zd8 u x hw⟩
 | .rf t, hw, h => by
   simp only [TV.wf] at hw
   simp only [TV.pureB] at h
   have := (z4r t hw.1 h).2
   have h2 : Ab.Pure (TV.rf t).pv := by simp only [TV.pv, Ab.Pure]; exact this
   exact ⟨h2, show Pures [_] from ⟨h2, trivial⟩⟩
 | .agg ts, hw, h => by
   simp only [TV.wf] at hw
   simp only [TV.pureB] at h
   have := (zfo ts hw.2.1 h).2
   exact ⟨by simp only [TV.pv, Ab.Pure]; exact this, by rw [zde]; exact this⟩
 | .tup ts, hw, h => by
   simp only [TV.wf] at hw
   simp only [TV.pureB] at h
   have := (zfo ts hw h).1
   have h2 : Ab.Pure (TV.tup ts).pv := by simp only [TV.pv, Ab.Pure]; exact this
   exact ⟨h2, show Pures [_] from ⟨h2, trivial⟩⟩
 | .fn f ts, hw, h => by
   simp only [TV.wf] at hw
   simp only [TV.pureB] at h
   have := (zfo ts hw h).1
   have h2 : Ab.Pure (TV.fn f ts).pv := by simp only [TV.pv, Ab.Pure]; exact this
   exact ⟨h2, show Pures [_] from ⟨h2, trivial⟩⟩
 | .ifc t x, hw, h => by
   simp only [TV.wf] at hw
   simp only [TV.pureB] at h
   have := (z4r x hw h).1
   have h2 : Ab.Pure (TV.ifc t x).pv := by simp only [TV.pv, Ab.Pure]; exact this
   exact ⟨h2, show Pures [_] from ⟨h2, trivial⟩⟩
 | .fsl u l, hw, _ => by
   simp only [TV.wf] at hw
   have := z7r hw
   have h2 : Ab.Pure (TV.fsl u l).pv := by simp only [TV.pv, Ab.Pure]; exact ⟨rfl, this⟩
   exact ⟨h2, show Pures [_] from ⟨h2, trivial⟩⟩
 | .osf u l lo n, hw, _ => by
   simp only [TV.wf] at hw
   have hp : Pures (List.take (n * u.size) (List.drop (lo * u.size) (rowU u l))) := z4s.2 fun p hp => z4s.1 (z7r hw) p (List.mem_of_mem_drop (List.mem_of_mem_take hp))
   have h2 : Ab.Pure (TV.osf u l lo n).pv := by simp only [TV.pv, Ab.Pure]; exact ⟨rfl, hp⟩
   exact ⟨h2, show Pures [_] from ⟨h2, trivial⟩⟩
 | .nil, _, _ => by simp [TV.pv, TV.cells, cellsOf, Pures, Ab.Pure]; rfl
 | .nilp, _, _ | .nilf, _, _ | .yl _, _, _ | .nili, _, _ | .nilm, _, _ | .one, _, _ | .dead, _, _ => by simp [TV.pv, TV.cells, cellsOf, Pures, Ab.Pure]
 | .ptr _ _ _, _, h | .os _ _ _ _ _ _, _, h => by simp [TV.pureB] at h
theorem zfo : ∀ ts : List TV, TV.wfs ts → zc1 ts = true → Pures (TV.pvs ts) ∧ Pures (TV.cellsL ts)
 | [], _, _ => by simp [TV.pvs, TV.cellsL, Pures]
 | t :: ts, hw, h => by
   simp only [TV.wfs] at hw
   simp only [zc1, Bool.and_eq_true] at h
   have h1 := z4r t hw.1 h.1
   have h2 := zfo ts hw.2 h.2
   refine ⟨by simp only [TV.pvs, Pures]; exact ⟨h1.1, h2.1⟩, ?_⟩
   rw [z2q]
   refine z4s.2 fun p hp => ?_
   rcases List.mem_append.1 hp with hp | hp
   · exact z4s.1 h1.2 p hp
   · exact z4s.1 h2.2 p hp
end
structure Sig where
 f : FuncId
 A : List Pat
 hp : List HPat
 pn : Nat
 X : XS
def Sig.codes (S : Sig) : List U := z0b S.A ++ z1io S.hp
def Sig.lens (S : Sig) (vs : List TV) : Nat → Nat := getN (lensH S.hp (vs.drop (z0b S.A).length))
def Sig.args (S : Sig) (x : LT S.codes) : List TV := (fillL (S.lens (z2n S.codes x)) S.A (z2n S.codes x)).1
def Sig.heap (S : Sig) (x : LT S.codes) : List TOb := zqp (S.lens (z2n S.codes x)) S.hp ((z2n S.codes x).drop (z0b S.A).length)
def resTV (σ : TS) : TV := (lookT σ.slots 0).getD .dead
structure FnOK (P : Program) (S : Sig) (fn : LT S.codes → Option S.X.T) : Prop where
 can : zfh P S.f = true
 ret : ∀ x y, fn x = some y → (∀ t, t ∈ S.args x → t.wf) → (∀ o, o ∈ S.heap x → o.wf) → (resTV (S.X.at' y).2).wf ∧ (∀ o, o ∈ (S.X.at' y).2.H → o.wf)
 calls : ∀ x y, fn x = some y → (∀ t, t ∈ S.args x → t.wf) → (∀ o, o ∈ S.heap x → o.wf) → z1ns P S.f S.pn ((S.args x).map TV.pv) ((S.heap x).map TOb.flat) (fun p H' => p = (resTV (S.X.at' y).2).pv ∧ H' = (S.X.at' y).2.H.map TOb.flat)
 open' : ∀ (R : Type) (y : S.X.T) (k : Exit → TS → Option R), S.X.open' y k = k (S.X.at' y).1 (S.X.at' y).2
structure Ent where
 f : FuncId
 ok : List TOb → List TV → Bool
 run : {R : Type} → List TOb → List TV → (TV → Option R) → Option R
def ExtQ (P : Program) (f : FuncId) (args : List TV) (t : TV) : Prop :=
 ∃ (fn : Func) (e : Array Value → Sem Value) (vs : List Value) (v : Value), P.funcs[f]? = some fn ∧ (fn.name == "runtime.NumGoroutine") = false ∧ fn.body.isNone = true ∧ Extern.findNext fn = none ∧ Extern.find fn = some e ∧
   args.map TV.pv = vs.map PV.val ∧ t.pv = .val v ∧ plain v = true ∧ ∀ w, (e vs.toArray).run P w = .ok v w
def CallQ (P : Program) (f : FuncId) (H : List TOb) (args : List TV) (t : TV) : Prop :=
 ExtQ P f args t ∨ zfh P f = true ∧ ∀ (Y : List AObj) w c (vs : Array Value), (∀ b, b < H.length → Y[b]? = (H.map TOb.flat)[b]?) → Ab.Good w c Y [] → vs.size = args.length → VRs w c (args.map TV.pv) (fun i => vs[i]?) →
   Calls P f vs w fun e w' => ∃ v, e = .returned v ∧ VR w' c t.pv v ∧ Ab.Good w' c Y [] ∧ Ext w c w' c
def EntOK (P : Program) (e : Ent) : Prop := ∀ (R : Type) (H : List TOb) (args : List TV) (k : TV → Option R) (r : R), (∀ o, o ∈ H → o.wf) → (∀ a, a ∈ args → a.wf) → e.run H args k = some r → ∃ t, k t = some r ∧ t.wf ∧ CallQ P e.f H args t
def callK {R : Type} (E : List Ent) (f : FuncId) (H : List TOb) (args : List TV) (k : TV → Option R) : Option R :=
 match E with
 | [] => none
 | e :: E => bif Nat.beq e.f f && e.ok H args then e.run H args k else callK E f H args k
def EnvOK (P : Program) (E : List Ent) : Prop := ∀ e, e ∈ E → EntOK P e
theorem z0l (P : Program) : EnvOK P [] := fun _ h => by cases h
theorem z0d {P : Program} {e : Ent} {E : List Ent} (h : EntOK P e) (g : EnvOK P E) : EnvOK P (e :: E) := fun x hx => by
 rcases List.mem_cons.1 hx with rfl | hx
 · exact h
 · exact g x hx
theorem z1d3 {R : Type} {P : Program} : ∀ {E : List Ent} {f : FuncId} {H : List TOb} {args : List TV} {k : TV → Option R} {r : R}, EnvOK P E → (∀ o, o ∈ H → o.wf) → (∀ a, a ∈ args → a.wf) → callK E f H args k = some r →
   ∃ t, k t = some r ∧ t.wf ∧ CallQ P f H args t
 | [], _, _, _, _, _, _, _, _, h => by simp [callK] at h
 | e :: E, f, H, args, k, r, hE, hH, hw, h => by
   simp only [callK] at h
   cases hc : Nat.beq e.f f && e.ok H args with
   | true =>
     rw [hc] at h
     simp only [Bool.and_eq_true] at hc
     have := Nat.eq_of_beq_eq_true hc.1
     subst this
     exact hE e (by simp) R H args k r hH hw h
   | false => rw [hc] at h; exact z1d3 (fun x hx => hE x (by simp [hx])) hH hw h
theorem zzj (σ : TS) : ∀ xs : List Operand, CLe (xs.map σ.flat.eval) ((xs.map σ.eval).map TV.pv)
 | [] => CLe.refl _
 | x :: xs => CLe.cons (zop σ x) (zzj σ xs)
def z1ie {R : Type} (E : List Ent) (H : List TOb) (fv : TV) (args : List TV) (k : TV → Option R) : Option R :=
 match fv with
 | .fn f caps => callK E f H (args ++ caps) k
 | _ => none
theorem zzr {w : World} {c : Cx} {σ : TS} {a : Act} {Y : List AObj} (hrel : RelC w c { σ.flat with H := Y } a) {fo : Operand} {xs : Array Operand} {f : FuncId} {caps : List TV} (hfo : σ.eval fo = .fn f caps) :
   ∃ cv : Array Value, a.eval fo = .func (.func f) #[] cv ∧ (xs.map a.eval ++ cv).size = (xs.toList.map σ.eval ++ caps).length ∧ VRs w c ((xs.toList.map σ.eval ++ caps).map TV.pv) (fun i => (xs.map a.eval ++ cv)[i]?) := by
 have hfv := hrel.2.eval fo
 have ef : σ.flat.eval fo = .fn f (TV.pvs caps) := by rw [z0i hfo (by simp)]; simp only [TV.pv]
 rw [show AS.eval { σ.flat with H := Y } fo = _ from ef] at hfv
 simp only [VR] at hfv
 obtain ⟨cv, hf1, hf2, hf3⟩ := hfv
 rw [z4n, List.length_map] at hf2
 refine ⟨cv, hf1, by simp [hf2], ?_⟩
 rw [List.map_append]
 have hgd : Gd w c := ⟨_, _, hrel.1⟩
 refine zw5 (zbd hgd (zzj σ xs.toList) (z2d fun i p hi => ?_)) ?_
 · rw [List.getElem?_map] at hi
   cases hx : xs.toList[i]? with
   | none => rw [hx] at hi; cases hi
   | some x =>
     rw [hx] at hi; simp at hi; subst hi
     have hx' : xs[i]? = some x := by simpa using hx
     have hlt : i < (xs.map a.eval).size := by
       have := (Array.getElem?_eq_some_iff.1 hx').1; simpa using this
     exact ⟨a.eval x, by rw [Array.getElem?_append_left hlt]; simp [hx'], hrel.2.eval x⟩
 · rw [z4n] at hf3
   refine zem hf3 fun i hi => ?_
   rw [Array.getElem?_append_right (by simp)]
   congr 1
   simp
theorem z1id {w : World} {c : Cx} : ∀ (vs : List Value) (l : List Value), VRs w c (vs.map PV.val) (fun i => l[i]?) → l.length = vs.length → l = vs
 | [], l, _, h => List.eq_nil_of_length_eq_zero h
 | v :: vs, [], _, h => by cases h
 | v :: vs, x :: l, hv, h => by
   have h0 := z0s hv (i := 0) (p := PV.val v) rfl
   obtain ⟨y, h1, h2⟩ := h0
   have hy : x = y := by simpa using h1
   subst hy
   rw [zb0] at h2
   rw [h2.1, z1id vs l (z2d fun i p hi => by
     obtain ⟨z, h3, h4⟩ := z0s hv (i := i + 1) (p := p) (by simpa using hi)
     exact ⟨z, by simpa using h3, h4⟩) (by simpa using h)]
theorem z1mb {P : Program} {o : Oper} {f : FuncId} {fo : Operand} {xs : Array Operand} {ats : Array TypeId} {ρ : Operand → Value} {cv : Array Value} {fn : Func} {e : Array Value → Sem Value} {vs : Array Value} {v : Value} (ho : o.op = .call { callee := .value fo, args := xs, argTypes := ats })
   (hf : P.funcs[f]? = some fn) (hname : (fn.name == "runtime.NumGoroutine") = false) (hb : fn.body.isNone = true) (hn : Extern.findNext fn = none) (he : Extern.find fn = some e)
   (hρ : ρ fo = .func (.func f) #[] cv) (ha : xs.map ρ ++ cv = vs) (w : World) (hr : (e vs).run P w = .ok v w) : (execOp ρ o).run P w = .ok (.value v) w := by
 simp only [execOp, ho, resolve, hρ, Deferred.ofValue, Sem.run_bind, Sem.run_pure, Result.andThen_ok, invoke]
 have := run_callFunc_extern (P := P) hf hname hb hn he (xs.map ρ ++ cv) w
 rw [ha, hr] at this
 rw [← ha] at this
 simpa using this
theorem z1of {R : Type} {P : Program} {E : List Ent} {o : Oper} {σ : TS} {fo : Operand} {xs : Array Operand} {ats : Array TypeId} {k : TV → Option R} {r : R} (hE : EnvOK P E)
   (ho : o.op = .call { callee := .value fo, args := xs, argTypes := ats }) (hw : σ.wf) (h : z1ie E σ.H (σ.eval fo) (xs.toList.map σ.eval) k = some r) : ∃ q, k q = some r ∧ TQ P o σ q := by
 have hwf := z0u hw fo
 unfold z1ie at h
 generalize hfo : σ.eval fo = fv at h hwf
 split at h
 · rename_i f caps
   simp only [TV.wf] at hwf
   obtain ⟨t, h1, h2, h34⟩ := z1d3 hE hw.H (fun a ha => by
     rcases List.mem_append.1 ha with ha | ha
     · simp only [List.mem_map] at ha
       obtain ⟨x, _, rfl⟩ := ha
       exact z0u hw x
     · exact z3u.1 hwf a ha) h
   refine ⟨t, h1, h2, fun Y hY c a w K Q hrel hK => ?_⟩
   obtain ⟨cv, e1, e2, e3⟩ := zzr (xs := xs) hrel hfo
   rcases h34 with ⟨fn, e, vs, v, hf, hname, hb, hn, he, hargs, ht, hpl, hrun⟩ | ⟨h3, h4⟩
   · have harr : xs.map a.eval ++ cv = vs.toArray := by
       rw [hargs] at e3
       have hlen : (xs.map a.eval ++ cv).toList.length = vs.length := by
         have := congrArg List.length hargs
         simp only [List.length_map] at this
         rw [Array.length_toList, e2, this]
       have := z1id vs (xs.map a.eval ++ cv).toList (zem e3 fun i hi => Array.getElem?_toList.symm) hlen
       rw [← this]
     exact z9z (z1mb ho hf hname hb hn he e1 harr w (hrun w)) (hK v w (by rw [ht, zb0]; exact ⟨rfl, hpl⟩) hrel.1 (Ext.refl _ _))
   unfold Oper.wp
   rw [z14s ho h3 e1]
   show Calls P f (xs.map a.eval ++ cv) w _
   refine (h4 Y w c _ (fun b hb => hY b (by simp only [z5j, ho]; simpa using hb)) hrel.1 e2 e3).mono ?_
   rintro e w' ⟨v, rfl, hv, hg, hx⟩
   exact hK v w' hv hg hx
 · cases h
def z17z {R : Type} (a : TV) (k : TV → Option R) : Option R :=
 match a with
 | .ptr b r p => k (.ptr b r p)
 | .rf t => k (.rf t)
 | .fn f c => k (.fn f c)
 | _ => none
theorem z1g1 {R : Type} {P : Program} {o : Oper} {σ : TS} {x : Operand} {k : TV → Option R} {r : R} (ho : o.op = .nilCheck x) (hw : σ.wf) (h : z17z (σ.eval x) k = some r) : ∃ q, k q = some r ∧ TQ P o σ q := by
 have hwx := z0u hw x
 unfold z17z at h
 generalize hx : σ.eval x = a at h hwx
 split at h
 · exact ⟨_, h, hwx, by exact fun Y hY => z1ej (σ := { σ.flat with H := Y }) ho ((z0i hx (by simp)).trans (by simp only [TV.pv]))⟩
 · exact ⟨_, h, hwx, by exact fun Y hY => z1g6 (σ := { σ.flat with H := Y }) ho ((z0i hx (by simp)).trans (by simp only [TV.pv]))⟩
 · exact ⟨_, h, hwx, by exact fun Y hY => z1g5 (σ := { σ.flat with H := Y }) ho ((z0i hx (by simp)).trans (by simp only [TV.pv]))⟩
 · cases h
def z17w {R : Type} (fn : Fn) (first : List Operand) (caps : List TV) (k : TV → Option R) : Option R :=
 match fn, first with
 | .func f, [] => k (.fn f caps)
 | _, _ => none
theorem z1gc {R : Type} {P : Program} {o : Oper} {σ : TS} {fn : Fn} {first captured : Array Operand} {k : TV → Option R} {r : R} (ho : o.op = .makeFunc fn first captured) (hw : σ.wf)
   (h : z17w fn first.toList (captured.toList.map σ.eval) k = some r) : ∃ q, k q = some r ∧ TQ P o σ q := by
 unfold z17w at h
 split at h
 · rename_i f hf
   have hf' : first = #[] := by simpa using hf
   subst hf'
   refine ⟨_, h, ?_, fun Y hY => q_run fun w c act hr => ⟨.func (.func f) #[] (captured.map act.eval), by simp [execOp, ho, Instr.makeFunc], ?_⟩⟩
   · simp only [TV.wf]
     refine z3u.2 fun t ht => ?_
     simp only [List.mem_map] at ht
     obtain ⟨x, _, rfl⟩ := ht
     exact z0u hw x
   · simp only [TV.pv, VR]
     refine ⟨_, rfl, by rw [z4n]; simp, ?_⟩
     rw [z4n]
     have hgd : Gd w c := ⟨_, _, hr.1⟩
     refine zbd hgd (zzj σ captured.toList) (z2d fun i p hi => ?_)
     rw [List.getElem?_map] at hi
     cases hx : captured.toList[i]? with
     | none => rw [hx] at hi; cases hi
     | some x =>
       rw [hx] at hi; simp at hi; subst hi
       have hx' : captured[i]? = some x := by simpa using hx
       exact ⟨act.eval x, by simp [hx'], hr.2.eval x⟩
 · cases h
def zng {R : Type} (P : Program) (E : List Ent) (o : Oper) (σ : TS) (k : TV → Option R) : Option R :=
 match o.op with
 | .move x => k (σ.eval x)
 | .assign x => k (σ.eval x)
 | .pick c x y => pickK (σ.eval c) (σ.eval x) (σ.eval y) k
 | .binOp op t x y _ => binK P op t (σ.eval x) (σ.eval y) k
 | .unOp op _ x => unK op (σ.eval x) k
 | .convert s t x => z1ib P σ.H s t (σ.eval x) k
 | .load t x => loadK P σ.H t (σ.eval x) k
 | .fieldAddr t x i => z14a P t i (σ.eval x) k
 | .indexAddr t x y => z14g P t (σ.eval x) (σ.eval y) k
 | .field t x i => z1i8 P t i (σ.eval x) k
 | .index t x y => z1h1 P t (σ.eval x) (σ.eval y) k
 | .build t parts => z1i4 P t (parts.toList.map fun x => (x.1, σ.eval x.2)) k
 | .buildSlice t len parts => zzv P t len (parts.toList.map fun x => (x.1, σ.eval x.2)) k
 | .extract x i => z1al i (σ.eval x) k
 | .nilCheck x => z17z (σ.eval x) k
 | .makeFunc fn first captured => z17w fn first.toList (captured.toList.map σ.eval) k
 | .slice t x lo hi mx => z1go P σ t (σ.eval x) lo hi mx k
 | .call { callee := .builtin .append, args := xs, argTypes := ts } => z1dt P σ.H (xs.toList.map σ.eval) ts.toList k
 | .call { callee := .builtin b, args := xs, argTypes := ts } => biK P b (xs.toList.map σ.eval) ts.toList k
 | .call { callee := .value fo, args := xs, argTypes := _ } => z1ie E σ.H (σ.eval fo) (xs.toList.map σ.eval) k
 | _ => none
theorem z1d7 {R : Type} {P : Program} {E : List Ent} (hE : EnvOK P E) {o : Oper} {σ : TS} {k : TV → Option R} {r : R} (hw : σ.wf) (h : zng P E o σ k = some r) : ∃ q, k q = some r ∧ TQ P o σ q := by
 unfold zng at h
 split at h
 · rename_i x ho; exact ⟨_, h, z0u hw x, fun Y hY => qle (z1sa ho rfl) (zop σ x)⟩
 · rename_i x ho; exact ⟨_, h, z0u hw x, fun Y hY => qle (z1ow ho rfl) (zop σ x)⟩
 · rename_i ho; exact z1mf ho hw h
 · rename_i ho; exact z1py ho hw h
 · rename_i ho; exact z1qr ho h
 · rename_i ho; exact z1l7 ho hw h
 · rename_i t x ho
   obtain ⟨q, h1, h2, h3⟩ := z1f2 hw (z0u hw x) h
   refine ⟨q, h1, h2, ?_⟩
   rcases zha σ x with e | e
   · exact fun Y hY => z1sj (σ := { σ.flat with H := Y }) ho e (h3 Y fun b hb => hY b (by simp only [z5j, ho]; exact hb))
   · rw [e] at h; simp [loadK] at h
 · rename_i ho; exact z1eh ho hw h
 · rename_i ho; exact z1dr ho hw h
 · rename_i ho; exact z1kx ho hw h
 · rename_i ho; exact z1lc ho hw h
 · rename_i ho; exact z1kz ho hw h
 · rename_i ho; exact z1dk ho hw h
 · rename_i ho; exact z1ij ho hw h
 · rename_i ho; exact z1g1 ho hw h
 · rename_i ho; exact z1gc ho hw h
 · rename_i ho; exact z1le ho hw h
 · rename_i ho; exact z1j8 ho hw h
 · rename_i ho; exact z1rm ho hw h
 · rename_i ho; exact z1of hE ho hw h
 · cases h
end Go.Tm
set_option linter.unusedSimpArgs false
set_option linter.unusedVariables false
namespace Go.Tm
open Go.Ab
def TStep (P : Program) (o : Oper) (σ : TS) (N : TS → Prop) : Prop :=
 ∀ c a w (K : Act → World → Prop) Q, RelT w c σ a →
   (∀ c' a' w' σ', N σ' → σ'.wf → RelT w' c' σ' a' → ExtP σ.p w c w' c' → a'.defers = a.defers → K a' w') → o.wp P a w K Q
theorem zlp {w : World} {c : Cx} {σ : TS} {a : Act} {t : TV} {v : Value} (d : Option Nat) (h : RelT w c σ a) (hv : VR w c t.pv v) : RelT w c (σ.put d t) (a.put d v) := by
 refine ⟨by cases d <;> exact h.1, ?_⟩
 rw [zk0]
 refine ⟨?_, h.2.2.put d hv⟩
 have := h.2.1
 cases d <;> simpa [AS.put] using this
theorem put_H (σ : TS) (d : Option Nat) (p : TV) : (σ.put d p).H = σ.H ∧ (σ.put d p).n = σ.n ∧ (σ.put d p).p = σ.p := by cases d <;> exact ⟨rfl, rfl, rfl⟩
theorem z1l1 {P : Program} {o : Oper} {σ : TS} {q : TV} {N : TS → Prop} (hw : σ.wf) (h : TQ P o σ q) (hN : N (σ.put o.dst q)) : TStep P o σ N := by
 intro c a w K Q hr hK
 refine h.2 σ.flat.H (fun _ _ => rfl) c a w K Q hr.2 fun v w' hv hg hx => hK c _ w' _ hN (z7j hw _ h.1) ?_ (ext_p hr.noT hx) (Act.put_defers' _ _ _)
 exact zlp _ ⟨hr.1, hg, hr.2.2.ext hx⟩ hv
theorem NewObj.le {P : Program} {o : Oper} {σ : AS} {cs ds : List PV} {e : TypeId} {pf : Nat → PV} (h : NewObj P o σ cs e pf) (hc : CLe cs ds) (hl : Leafs ds) : NewObj P o σ ds e pf := by
 obtain ⟨h1, h2⟩ := h
 refine ⟨hl, fun w c a hr => ?_⟩
 rcases h2 w c a hr with ⟨v, d, ⟨vs, fr, k1, k2, k3, k4, k5⟩ | ⟨rfl, k1, k2⟩⟩
 · exact ⟨v, d, .inl ⟨vs, fr, k1, k2, by rw [← hc.1]; exact k3, zbd ⟨_, _, hr.1⟩ hc k4, k5⟩⟩
 · exact ⟨v, d, .inr ⟨List.eq_nil_of_length_eq_zero hc.1.symm, k1, k2⟩⟩
def z1de : Operand → Operand → Bool
 | .tmp a, .tmp b => Nat.beq a b
 | .const (.int k n), .const (.int k' m) => zgi k k' && decide (n = m)
 | _, _ => false
theorem z1mp {x y : Operand} (h : z1de x y = true) : x = y := by
 unfold z1de at h
 split at h
 · rw [Nat.eq_of_beq_eq_true h]
 · simp only [Bool.and_eq_true, decide_eq_true_eq] at h
   rw [zeq h.1, h.2]
 · cases h
def makeG {R : Type} (n : Int) (nb : Nat) (k : Option R) : Option R := bif leI 0 n && leI (nb * n) 281474976710656 then k else none
def isStr (P : Program) (s : TypeId) : Bool :=
 match P.underlying s with
 | some .string => true
 | _ => false
def z10t : TV → Bool
 | .nil => true
 | .fsl _ [] => true
 | _ => false
theorem z1m5 {t : TV} (h : z10t t = true) : t.pv = .tr 0 [] .full := by
 unfold z10t at h
 split at h
 · rfl
 · rfl
 · cases h
theorem z1j5 {t : TV} (h : z10t t = true) : t ≠ .dead := fun e => by subst e; cases h
def zw8 (P : Program) (own : List Nat) (i : Nat) (o : Oper) (σ : TS) : Bool :=
 match o.op with
 | .box _ _ => true
 | .alloc _ => true
 | .makeSlice _ _ _ => true
 | .convert s t _ => isStr P s && zt0 P t
 | .call { callee := .builtin .append, args := xs, argTypes := _ } => memN own i && (match xs.toList.map σ.eval with
   | [a, _] => z10t a
   | _ => false)
 | .buildSlice _ _ _ => memN own i
 | _ => false
def z1jp {R : Type} (P : Program) (t : TypeId) (len : Nat) (ps : List (Nat × TV)) (k : TypeId → (u : U) → List u.T → Option R) : Option R :=
 match P.underlying t with
 | some (.slice e) => bif Nat.beq len 0 && Nat.beq ps.length 0 then (match zia P zgu e, tySz P e with
   | some u, some n => bif Nat.beq n u.size then k e u [] else none
   | _, _ => none) else
   match zia P zgu e, tySz P e, z9t P e with
   | some u, some n, some z => bif Nat.beq n u.size && !Nat.beq n 0 && !Nat.beq len 0 && Nat.beq z.length n && z.all leaf && Nat.ble (len * n) 16777216 && Nat.beq ps.length len && zy5 ps 0 && ps.all (fun x => x.2.stores)
     then zrb u (ps.map (·.2)) fun l => k e u l else none
   | _, _, _ => none
 | _ => none
theorem z1s1 {P : Program} {o : Oper} {σ : AS} {t e : TypeId} {len n : Nat} {parts : Array (Nat × Operand)} {z : List PV} {ps : List PV}
   (ho : o.op = .buildSlice t len parts) (ht : P.underlying t = some (.slice e)) (hs : tySz P e = some n) (hn : n ≠ 0) (hl0 : len ≠ 0) (hz : z9t P e = some z) (hzn : z.length = n) (hzl : Leafs z)
   (hmax : len * n ≤ 2 ^ 24) (hlen : ps.length = len) (hps : parts.toList.map (fun x => (x.1, σ.eval x.2)) = (ps.zipIdx 0).map fun x => (x.2, x.1)) (hp : ∀ p, p ∈ ps → stor p = true ∧ (cellsOf p).length = n) (hlf : Leafs (ps.flatMap cellsOf)) :
   NewObj P o σ (ps.flatMap cellsOf) e (fun b => .sl b 0 len n) := by
 have hfill : Fill (fun i => some (i * n, n)) (List.replicate len z).flatten ((ps.zipIdx 0).map fun x => (x.2, x.1)) (ps.flatMap cellsOf) := by
   have := z1aw ps 0 [] (List.replicate len z).flatten (by simp) (by simp [hzn, hlen]) hp
   simpa using this
 have hcl : (ps.flatMap cellsOf).length = len * n := by
   rw [← hlen]
   clear hfill hlf hps hlen hmax hl0
   induction ps with
   | nil => simp
   | cons p ps ih => simp only [List.flatMap_cons, List.length_append, List.length_cons, (hp p (by simp)).2, ih fun q hq => hp q (by simp [hq]), Nat.add_mul, Nat.one_mul]; omega
 refine ⟨hlf, fun w c a hr => ?_⟩
 have hvals : (parts.map fun (x : Nat × Operand) => (x.1, a.eval x.2)).toList.length = ((ps.zipIdx 0).map fun x => (x.2, x.1)).length := by rw [← hps]; simp
 have hrel : ∀ (k i : Nat) (p : PV), ((ps.zipIdx 0).map fun x => (x.2, x.1))[k]? = some (i, p) → ∃ v, (parts.map fun (x : Nat × Operand) => (x.1, a.eval x.2)).toList[k]? = some (i, v) ∧ VR w c p v := by
   intro k i p hp
   rw [← hps, List.getElem?_map] at hp
   cases hx : parts.toList[k]? with
   | none => rw [hx] at hp; cases hp
   | some x =>
     rw [hx] at hp
     simp at hp
     obtain ⟨rfl, rfl⟩ := hp
     exact ⟨a.eval x.2, by rw [Array.toList_map, List.getElem?_map, hx]; rfl, hr.2.eval x.2⟩
 obtain ⟨vs, h1, h2, h3, h4⟩ := z11u ht hs hn hl0 hz hzn hzl rfl hmax hfill hvals hrel
 have hvs : vs.size = len * n := by rw [h2, hcl]
 refine ⟨.slice (some ⟨w.heap.size, 0, none⟩) len len, w.drawn, .inl ⟨vs, (0, 0), ?_, zf4 _, Nat.le_of_eq h2.symm, h4, fun w' c' b hb hm => ?_⟩⟩
 · have h1' : (Instr.buildSlice t len (parts.map fun (x : Nat × Operand) => (x.1, a.eval x.2))).run P w =
       .ok (.slice (some ⟨w.heap.size, 0, none⟩) len len) (grow w (.cells vs e (0, 0))) := by have h1' := h1; rwa [Array.toArray_toList] at h1'
   simp only [execOp, ho, Sem.run_bind, h1', Result.andThen_ok]
   rfl
 · simp only [VR]
   exact .inr ⟨w.heap.size, len, 0, hm, rfl, .inr rfl, Nat.le_refl _, vs, e, (0, 0), hb, by rw [hvs]; omega⟩
theorem z1ov {P : Program} {o : Oper} {σ : AS} {t e : TypeId} {n : Nat} {parts : Array (Nat × Operand)} (ho : o.op = .buildSlice t 0 parts) (hp : parts.toList.length = 0) (ht : P.underlying t = some (.slice e)) (hs : tySz P e = some n) :
   NewObj P o σ [] e (fun b => .sl b 0 0 n) := by
 have hpe : parts = #[] := by
   apply Array.ext' ; exact List.eq_nil_of_length_eq_zero hp
 subst hpe
 refine ⟨(fun p hp => by cases hp), fun w c a hr => ?_⟩
 have h1 : (Instr.buildSlice t 0 #[]).run P w = .ok (.slice (some ⟨w.heap.size, 0, none⟩) 0 0) (grow w (.cells #[] e (0, 0))) := by
   unfold Instr.buildSlice
   simp only [Sem.run_bind, Ab.run_underlying ht, Result.andThen_ok, Ab.run_sizeOf hs]
   rw [if_neg (by omega)]
   have e3 : (Array.range 0).map (fun x => (#[] : Array Value)[x % (#[] : Array Value).size]!) = #[] := by simp
   simp only [Nat.zero_mul, if_true, Sem.run_pure, Sem.run_bind, Result.andThen_ok]
   rw [e3]
   simp only [Instr.fill, Sem.run_bind, newRow, run_newObj, Result.andThen_ok, Sem.run_pure]
   rfl
 refine ⟨.slice (some ⟨w.heap.size, 0, none⟩) 0 0, w.drawn, .inl ⟨#[], (0, 0), ?_, zf4 _, Nat.zero_le _, (by simp only [VRs]), fun w' c' b hb hm => ?_⟩⟩
 · have e2 : (#[] : Array (Nat × Operand)).map (fun x => (x.1, a.eval x.2)) = #[] := by simp
   simp only [execOp, ho, Sem.run_bind]
   rw [show (Array.map (fun (x : Nat × Operand) => (x.1, a.eval x.2)) #[]) = #[] from e2, h1]
   rfl
 · simp only [VR]
   exact .inl ⟨⟨_, rfl⟩, trivial⟩
def newK {R : Type} (P : Program) (o : Oper) (σ : TS) (k : (Nat → TV) → TypeId → Ob → Option R) : Option R :=
 match o.op with
 | .box t x => bif (σ.eval x).stores then k (fun b => .ptr b (.one (σ.eval x).lay) []) t (.var (σ.eval x)) else none
 | .alloc t => match zeroK P t with
   | some z => k (fun b => .ptr b (.one z.lay) []) t (.var z)
   | none => none
 | .makeSlice t x y => match P.underlying t with
   | some (.slice e) => match zia P zgu e, z9t P e, (P.info? e).map (·.bytes), σ.eval x with
     | some u, some z, some nb, .v (.int .i64) n => bif z1de x y && fitTy P e u && !Nat.beq nb 0 && !Nat.beq u.size 0 && Nat.beq z.length u.size && u.solid && pvLeL z (cellU u (zeroU u)) && z.all leaf then
         makeG n nb (k (fun b => .os b (.row u.canon) [] u 0 n.toNat) e (.row u (List.replicate n.toNat (zeroU u)))) else none
     | _, _, _, _ => none
   | _ => none
 | .convert _ t x => match P.underlying t, σ.eval x with
   | some (.slice e), .v .str s => k (fun b => .os b (.row (U.int .u8).canon) [] (.int .u8) 0 (List.length s)) e (.row (.int .u8) s)
   | _, _ => none
 | .call { callee := .builtin .append, args := xs, argTypes := ts } => match xs.toList.map σ.eval, ts.toList with
   | [a, b], [t, t2] => bif z10t a then (match P.underlying t with
     | some (.slice e) => match zia P zgu e with
       | some u => zoh P σ.H t t2 u [] b fun m => k (fun b => .os b (.row u.canon) [] u 0 m.length) e (.row u m)
       | none => none
     | _ => none) else none
   | _, _ => none
 | .buildSlice t len parts => z1jp P t len (parts.toList.map fun x => (x.1, σ.eval x.2)) fun e u l => k (fun b => .os b (.row u.canon) [] u 0 (List.length l)) e (.row u l)
 | _ => none
def z18f (P : Program) (o : Oper) : Bool :=
 match o.op with
 | .convert s t _ => isStr P s && zt0 P t
 | _ => true
structure NewOK (P : Program) (o : Oper) (σ : TS) (pf : Nat → TV) (e : TypeId) (ob : Ob) : Prop where
 wf : ob.wf
 pwf : ∀ b, (pf b).wf
 new : ∀ Y : List AObj, (∀ b, b ∈ z5j o σ → Y[b]? = σ.flat.H[b]?) → NewObj P o { σ.flat with H := Y } ob.cells e (fun b => (pf b).pv)
theorem z14u (u : U) (x : u.T) : ∀ n, rowU u (List.replicate n x) = (List.replicate n (cellU u x)).flatten
 | 0 => rfl
 | n + 1 => by
   have := z14u u x n
   simp only [List.replicate_succ, rowU, List.flatMap_cons, List.flatten_cons] at this ⊢
   rw [this]
theorem zsb {a b : List PV} (h : CLe a b) : ∀ n, CLe (List.replicate n a).flatten (List.replicate n b).flatten
 | 0 => CLe.refl _
 | n + 1 => by
   simp only [List.replicate_succ, List.flatten_cons]
   exact h.append (zsb h n)
theorem z1i2 {R : Type} {P : Program} {o : Oper} {σ : TS} {k : (Nat → TV) → TypeId → Ob → Option R} {r : R} (hw : σ.wf) (hs : z18f P o = true) (h : newK P o σ k = some r) : ∃ pf e ob, k pf e ob = some r ∧ NewOK P o σ pf e ob := by
 unfold newK at h
 split at h
 · rename_i t x ho
   cases hs : (σ.eval x).stores with
   | false => rw [hs] at h; cases h
   | true =>
     rw [hs] at h
     have hwx := z0u hw x
     have ex : σ.flat.eval x = (σ.eval x).pv := by
       rcases zha σ x with e | e
       · exact e
       · rw [e] at hs; cases hs
     refine ⟨_, _, _, h, ⟨hwx, hs⟩, fun b => by simp only [TV.wf], fun Y _ => ?_⟩
     simp only [TV.pv, Rt.off, U.off]
     exact z1rz (σ := { σ.flat with H := Y }) ho ex (zwb hwx hs) (z4z hwx hs)
 · rename_i t ho
   split at h
   · rename_i z hz
     obtain ⟨z1, z2, zp, z3, z4, z5⟩ := z13c hz
     refine ⟨_, _, _, h, ⟨z1, z2⟩, fun b => by simp only [TV.wf], fun Y _ => ?_⟩
     simp only [TV.pv, Rt.off, U.off]
     exact z1ml (σ := { σ.flat with H := Y }) ho z3 z5.1 (z4z z1 z2) fun w c f hg hv => zbd hg z5 hv
   · cases h
 · rename_i t x y ho
   split at h
   · rename_i e hu
     split at h
     · rename_i u z nb n hcu hz hnb hx
       cases hc : z1de x y && fitTy P e u && !Nat.beq nb 0 && !Nat.beq u.size 0 && Nat.beq z.length u.size && u.solid && pvLeL z (cellU u (zeroU u)) && z.all leaf with
       | false => rw [hc] at h; cases h
       | true =>
         rw [hc] at h
         simp only [Bool.and_eq_true, Bool.not_eq_true'] at hc
         obtain ⟨⟨⟨⟨⟨⟨⟨c1, c2⟩, c3⟩, c4⟩, c5⟩, c6⟩, c7⟩, c8⟩ := hc
         have e1 := z1mp c1
         subst e1
         simp only [cond_true, makeG] at h
         cases hg : leI 0 n && leI (nb * n) 281474976710656 with
         | false => rw [hg] at h; cases h
         | true =>
           rw [hg] at h
           simp only [Bool.and_eq_true, decide_eq_true_eq] at hg
           have hwn := z0u hw x
           rw [hx] at hwn
           simp only [TV.wf, wfU] at hwn
           have hzw := zra u c6
           have hwr : ∀ y, y ∈ List.replicate n.toNat (zeroU u) → wfU u y := fun y hy => by rw [List.eq_of_mem_replicate hy]; exact hzw
           have ex : σ.flat.eval x = .val (.int .i64 n) := z0i hx (by simp)
           refine ⟨_, _, _, h, hwr, fun b => by simp only [TV.wf], fun Y _ => ?_⟩
           have hel : ElemT P e u.size nb := ⟨(z7i c2).2, hnb, fun e0 => by rw [e0] at c3; simp at c3, z, hz, Nat.eq_of_beq_eq_true c5⟩
           have := z1q9 (P := P) (σ := { σ.flat with H := Y }) (x := x) (y := x) ho hu hel hz (Nat.eq_of_beq_eq_true c5) (fun p hp => List.all_eq_true.1 c8 p hp) (fun e => by rw [e] at c4; simp at c4) ex ex hg.1 (by omega) hwn.2
           simp only [TV.pv, Rt.off, Nat.zero_mul, Nat.zero_add]
           refine NewObj.le this ?_ (z3z hwr)
           simp only [Ob.cells]
           rw [z14u]
           exact zsb (zpq c7) _
     · cases h
   · cases h
 · rename_i s t x ho
   split at h
   · rename_i e s' hu hx
     have hwx := z0u hw x
     rw [hx] at hwx
     simp only [TV.wf, wfU] at hwx
     have ex : σ.flat.eval x = .val (.string (ba s')) := by rw [z0i hx (by simp)]; rfl
     unfold z18f at hs
     rw [ho] at hs
     simp only [Bool.and_eq_true] at hs
     obtain ⟨hs1, hs2⟩ := hs
     obtain ⟨e', h1, h2⟩ := z10n hs2
     rw [hu] at h1
     cases h1
     have hstr : P.underlying s = some .string := by
       unfold isStr at hs1
       split at hs1
       · assumption
       · cases hs1
     refine ⟨_, _, _, h, z1gj hwx, fun b => by simp only [TV.wf], fun Y _ => ?_⟩
     have := z1nj (P := P) (σ := { σ.flat with H := Y }) ho hstr hu h2 ex
     rw [z1f7 hwx] at this
     simp only [TV.pv, Rt.off, Nat.zero_mul, Nat.zero_add, U.size, zp9, Ob.cells] at this ⊢
     exact this
   · cases h
 · rename_i xs ts ho
   generalize hm : xs.toList.map σ.eval = m at h
   generalize hts : ts.toList = l at h
   split at h
   · rename_i a0 b t t2
     obtain ⟨x, y, rfl, hx, hy⟩ := zy1 hm
     have e := z8e hts; subst e
     cases hem : z10t a0 with
     | false => rw [hem] at h; cases h
     | true =>
     rw [hem] at h
     simp only [cond_true] at h
     split at h
     · rename_i e hu
       split at h
       · rename_i u _
         rw [← hy] at h
         obtain ⟨m', e', nb, h1, h2⟩ := zu8 hw h
         have hu' := h2.ty
         rw [hu] at hu'
         cases hu'
         refine ⟨_, _, _, h1, h2.wf, fun b => by simp only [TV.wf], fun Y hY => ?_⟩
         have := z1l3 (P := P) (σ := { σ.flat with H := Y }) ho hu h2.el h2.src (by rw [show AS.eval { σ.flat with H := Y } x = σ.flat.eval x from rfl, z0i hx (z1j5 hem)]; exact z1m5 hem) (h2.srcN Y fun b hb => hY b (by simp [z5j, ho, hb])).ok (by have := h2.le; simpa using this)
         simp only [TV.pv, Rt.off, Nat.zero_mul, Nat.zero_add, Ob.cells]
         exact this
       · cases h
     · cases h
   · cases h
 · rename_i t len parts ho
   have hpw : ∀ p, p ∈ (parts.toList.map fun x => (x.1, σ.eval x.2)) → p.2.wf := fun p hp => by
     simp only [List.mem_map] at hp
     obtain ⟨x, _, rfl⟩ := hp
     exact z0u hw x.2
   unfold z1jp at h
   split at h
   · rename_i e hu
     cases h0 : Nat.beq len 0 && Nat.beq (parts.toList.map fun x => (x.1, σ.eval x.2)).length 0 with
     | true =>
       rw [h0] at h
       simp only [Bool.and_eq_true, List.length_map] at h0
       have e0 := Nat.eq_of_beq_eq_true h0.1
       have e1 := Nat.eq_of_beq_eq_true h0.2
       subst e0
       simp only [cond_true] at h
       split at h
       · rename_i u n hcode hn
         cases hc : Nat.beq n u.size with
         | false => rw [hc] at h; cases h
         | true =>
           rw [hc] at h
           have e2 := Nat.eq_of_beq_eq_true hc
           refine ⟨_, _, _, h, (fun x hx => by cases hx), fun b => by simp only [TV.wf], fun Y _ => ?_⟩
           simp only [TV.pv, Rt.off, Nat.zero_mul, Nat.zero_add, Ob.cells, List.length_nil]
           rw [← e2]
           exact z1ov (σ := { σ.flat with H := Y }) ho e1 hu hn
       · cases h
     | false =>
     rw [h0] at h
     simp only [cond_false] at h
     split at h
     · rename_i u n z hcode hn hz
       generalize hps : (parts.toList.map fun x => (x.1, σ.eval x.2)) = ps at h hpw
       cases hc : Nat.beq n u.size && !Nat.beq n 0 && !Nat.beq len 0 && Nat.beq z.length n && z.all leaf && Nat.ble (len * n) 16777216 && Nat.beq ps.length len && zy5 ps 0 && ps.all (fun x => x.2.stores) with
       | false => rw [hc] at h; cases h
       | true =>
         rw [hc] at h
         simp only [Bool.and_eq_true, Bool.not_eq_true'] at hc
         obtain ⟨⟨⟨⟨⟨⟨⟨⟨c1, c2⟩, c3⟩, c4⟩, c5⟩, c6⟩, c7⟩, c8⟩, c9⟩ := hc
         have e1 := Nat.eq_of_beq_eq_true c1
         have e7 := Nat.eq_of_beq_eq_true c7
         have n0 : n ≠ 0 := fun e => by rw [e] at c2; cases c2
         have l0 : len ≠ 0 := fun e => by rw [e] at c3; cases c3
         obtain ⟨l, q1, q2, q3, q4, q5⟩ := zxk (fun s hs => by
           simp only [List.mem_map] at hs
           obtain ⟨x, hx, rfl⟩ := hs
           exact hpw x hx) h
         simp only [List.length_map] at q2
         refine ⟨_, _, _, q1, q3, fun b => by simp only [TV.wf], fun Y _ => ?_⟩
         have hst : ∀ p, p ∈ ps.map (fun x => x.2.pv) → stor p = true ∧ (cellsOf p).length = n := fun p hp => by
           simp only [List.mem_map] at hp
           obtain ⟨x, hx, rfl⟩ := hp
           exact ⟨zwb (hpw x hx) (List.all_eq_true.1 c9 x hx), by rw [e1]; exact q5 x.2 (List.mem_map.2 ⟨x, hx, rfl⟩)⟩
         have e2 : (ps.map fun x => x.2.pv).flatMap cellsOf = (ps.map (·.2)).flatMap TV.cells := by simp [List.flatMap_map, TV.cells]
         have hlf : Leafs ((ps.map fun x => x.2.pv).flatMap cellsOf) := fun p hp => by
           rw [List.mem_flatMap] at hp
           obtain ⟨y, hy, hp⟩ := hp
           simp only [List.mem_map] at hy
           obtain ⟨x, hx, rfl⟩ := hy
           exact z4z (hpw x hx) (List.all_eq_true.1 c9 x hx) p hp
         have hq := z1s1 (σ := { σ.flat with H := Y }) (ps := ps.map fun x => x.2.pv) ho hu hn n0 l0 hz (Nat.eq_of_beq_eq_true c4) (fun p hp => List.all_eq_true.1 c5 p hp) (by have := Nat.le_of_ble_eq_true c6; omega) (by simpa using e7)
           (by rw [show (parts.toList.map fun x => (x.1, AS.eval { σ.flat with H := Y } x.2)) = parts.toList.map fun x => (x.1, σ.flat.eval x.2) from rfl, zxe (by rw [hps]; exact c9), hps]; exact z10c c8) hst hlf
         rw [e2] at hq
         have hq2 := NewObj.le hq q4 (z3z q3)
         simp only [TV.pv, Rt.off, Nat.zero_mul, Nat.zero_add, Ob.cells]
         rw [q2, e7, ← e1]
         exact hq2
     · cases h
   · cases h
 · cases h
theorem z1pc {P : Program} {o : Oper} {σ : TS} {pf : Nat → TV} {e : TypeId} {ob : Ob} {N : TS → Prop} (hw : σ.wf) (h : NewOK P o σ pf e ob) (hN : N { σ.put o.dst (pf σ.H.length) with H := σ.H ++ [.ob e ob] }) : TStep P o σ N := by
 intro c a w K Q hr hK
 have h1 := h.new σ.flat.H (fun _ _ => rfl)
 have hstep := z1p4 (N := fun τ => τ = { σ.flat.put o.dst (pf σ.H.length).pv with H := σ.flat.H ++ [.row ob.cells e] }) h1 (by simp [TS.flat])
 refine hstep c a w K Q hr.2 fun c' a' w' τ hτ hr' hx hd => ?_
 subst hτ
 refine hK c' a' w' _ hN ⟨fun x hx' => ?_, fun q hq => ?_⟩ ⟨?_, ?_⟩ (ext_p hr.noT hx) hd
 · have := (z7j hw o.dst (h.pwf σ.H.length)).slots
   exact this x hx'
 · rcases List.mem_append.1 hq with hq | hq
   · exact hw.H q hq
   · simp only [List.mem_singleton] at hq; subst hq; exact h.wf
 · show c'.pn = (σ.put o.dst (pf σ.H.length)).p
   rw [hx.pn, hr.1, (put_H _ _ _).2.2]
 · have e1 : TS.flat { σ.put o.dst (pf σ.H.length) with H := σ.H ++ [.ob e ob] } = { σ.flat.put o.dst (pf σ.H.length).pv with H := σ.flat.H ++ [.row ob.cells e] } := by
     cases o.dst <;> simp [TS.flat, TS.put, AS.put, TOb.flat]
   rw [e1]; exact hr'
end Go.Tm
set_option linter.unusedSimpArgs false
set_option linter.unusedVariables false
namespace Go.Tm
open Go.Ab
def z1bo {R : Type} (P : Program) (o : Oper) (σ : TS) (t : TypeId) (x y : Operand) (k : Nat → TypeId → Ob → Option R) : Option R :=
 match tySz P t, σ.eval x with
 | some n, .ptr b r p =>
   match σ.H[b]? with
   | some (.ob e ob) => bif r.beq ob.lay && (σ.eval y).stores && Nat.beq n (σ.eval y).lay.size then setO ob p (σ.eval y) fun ob' => k b e ob' else none
   | _ => none
 | _, _ => none
theorem Good.setLe {w : World} {c : Cx} {H : List AObj} {ts : List Bool} (g : Ab.Good w c H ts) {b : Nat} {cs ds : List PV} {e : TypeId} (hb : H[b]? = some (.row cs e)) (hc : CLe cs ds) (hl : Leafs ds) : Ab.Good w c (H.set b (.row ds e)) ts :=
 { g with
   len := by rw [g.len]; simp
   obj := fun i o h => by
     by_cases hi : b = i
     · subst hi
       rw [List.getElem?_set_self (List.getElem?_eq_some_iff.1 hb).1] at h
       cases h
       rcases g.obj b _ hb with ⟨g1, g2⟩ | ⟨k, vs, fr, g1, g2, g3, g4, g5, g6⟩
       · exact .inl ⟨List.length_eq_zero_iff.1 (by rw [← hc.1, g1]; rfl), g2⟩
       · exact .inr ⟨k, vs, fr, g1, g2, g3, by rw [← hc.1]; exact g4, hl, zbd ⟨_, _, g⟩ hc g6⟩
     · rw [List.getElem?_set_ne hi] at h
       exact g.obj i o h }
theorem StoreStep.le {P : Program} {o : Oper} {σ : AS} {b : Nat} {cs ds : List PV} {e : TypeId} (h : StoreStep P o σ b cs e) (hc : CLe cs ds) (hl : Leafs ds) (hb : b < σ.H.length) : StoreStep P o σ b ds e := by
 intro c a w K Q hr hK
 refine h c a w K Q hr fun w' hg hx => hK w' ?_ hx
 have := Good.setLe hg (List.getElem?_set_self hb) hc hl
 rw [List.set_set] at this
 exact this
theorem z1fl {H : List TOb} (hw : ∀ o, o ∈ H → o.wf) : ∀ x, x ∈ H.map TOb.flat → OLe x x := fun x hx => by
 simp only [List.mem_map] at hx
 obtain ⟨q, hq, rfl⟩ := hx
 cases q with
 | gone => rfl
 | ob e o => exact ⟨rfl, CLe.refl _, z1or (hw _ hq)⟩
structure StoreOK (P : Program) (o : Oper) (σ : TS) (b : Nat) (e : TypeId) (ob' : Ob) : Prop where
 wf : ob'.wf
 lt : b < σ.H.length
 ob : ∃ ob, σ.H[b]? = some (.ob e ob)
 step : ∀ Y : List AObj, Y[b]? = σ.flat.H[b]? → StoreStep P o { σ.flat with H := Y } b ob'.cells e
theorem z1cb {R : Type} {P : Program} {o : Oper} {σ : TS} {t : TypeId} {x y : Operand} {k : Nat → TypeId → Ob → Option R} {r : R} (ho : o.op = .store t x y) (hw : σ.wf) (h : z1bo P o σ t x y k = some r) : ∃ b e ob', k b e ob' = some r ∧ StoreOK P o σ b e ob' := by
 unfold z1bo at h
 split at h
 · rename_i n b rt p hn hx
   split at h
   · rename_i e ob hb
     cases hc : rt.beq ob.lay && (σ.eval y).stores && Nat.beq n (σ.eval y).lay.size with
     | false => rw [hc] at h; cases h
     | true =>
       rw [hc] at h
       simp only [Bool.and_eq_true] at hc
       obtain ⟨⟨c1, c2⟩, c3⟩ := hc
       have e1 := Rt.beq_eq c1
       subst e1
       have e3 := Nat.eq_of_beq_eq_true c3
       have hwy := z0u hw y
       have hob := hw.H _ (List.mem_of_getElem? hb)
       obtain ⟨ob', h1, h2⟩ := z1et ob p hob hwy h
       have ex : σ.flat.eval x = .ptr b (ob.lay.off p) := by rw [z0i hx (by simp)]; simp only [TV.pv]
       have ey : σ.flat.eval y = (σ.eval y).pv := by
         rcases zha σ y with e | e
         · exact e
         · rw [e] at c2; cases c2
       have hl := z7b _ hwy
       have hblt : b < σ.H.length := (List.getElem?_eq_some_iff.1 hb).1
       refine ⟨b, e, ob', h1, h2.wf, hblt, ⟨ob, hb⟩, fun Y hY => ?_⟩
       have hbY : Y[b]? = some (.row ob.cells e) := hY.trans (flatH hb)
       refine StoreStep.le (z1qj (σ := { σ.flat with H := Y }) ho hn ex ey (zwb hwy c2) (by rw [e3]; exact hl) hbY (by rw [e3, ← hl]; exact h2.le)) h2.cells h2.leafs (List.getElem?_eq_some_iff.1 hbY).1
   · cases h
 · cases h
theorem z13d (σ : TS) (b : Nat) (e : TypeId) (ob : Ob) : TS.flat { σ with H := σ.H.set b (.ob e ob) } = { σ.flat with H := σ.flat.H.set b (.row ob.cells e) } := by
 simp [TS.flat, TOb.flat, List.map_set]
theorem z1d6 {σ : TS} (hw : σ.wf) (b : Nat) {o : TOb} (ho : o.wf) : TS.wf { σ with H := σ.H.set b o } :=
 ⟨hw.slots, fun q hq => by
   rcases List.mem_or_eq_of_mem_set hq with hq | hq
   · exact hw.H q hq
   · rw [hq]; exact ho⟩
def cpyL {α : Type} (l : List α) (lo n : Nat) (m : List α) : List α := l.take lo ++ m.take (min m.length n) ++ l.drop (lo + min m.length n)
theorem z1if {α : Type} {l m : List α} {lo n : Nat} {x : α} (h : x ∈ cpyL l lo n m) : x ∈ l ∨ x ∈ m := by
 simp only [cpyL, List.mem_append] at h
 rcases h with (h | h) | h
 · exact .inl (List.mem_of_mem_take h)
 · exact .inr (List.mem_of_mem_take h)
 · exact .inl (List.mem_of_mem_drop h)
theorem z1pn {α : Type} {l m : List α} {lo n : Nat} (h : lo + n ≤ l.length) : (cpyL l lo n m).length = l.length := by
 simp only [cpyL, List.length_append, List.length_take, List.length_drop]
 omega
theorem z1gl {u : U} {l m : List u.T} {lo n : Nat} (hl : ∀ x, x ∈ l → wfU u x) (hm : ∀ x, x ∈ m → wfU u x) (h : lo + n ≤ l.length) :
   rowU u (cpyL l lo n m) = splice (rowU u l) (lo * u.size) ((rowU u m).take (min m.length n * u.size)) := by
 have e3 : (rowU u m).take (min m.length n * u.size) = rowU u (m.take (min m.length n)) := zpa hm (Nat.min_le_left _ _)
 have e4 : (rowU u (m.take (min m.length n))).length = min m.length n * u.size := by
   rw [z7y (fun x hx => hm x (List.mem_of_mem_take hx)), List.length_take]
   congr 1; omega
 simp only [cpyL, z10i, splice]
 rw [e3, e4, ← zpa hl (by omega), ← Nat.add_mul, ← zt6 hl (by omega)]
def z1gk {R : Type} (o : Ob) (p : List Stp) (u : U) (f : List u.T → (List u.T → Option R) → Option R) (k : Ob → Option R) : Option R :=
 getO o p fun t => match t with
   | .v (.arr m u') l => castK (.sl u') (.sl u) l fun l0 => f l0 fun l1 => castK (.sl u) (.sl u') l1 fun l2 => setO o p (.v (.arr m u') l2) k
   | _ => none
def z1ca {R : Type} (o : Ob) (r : Rt) (p : List Stp) (u : U) (f : List u.T → (List u.T → Option R) → Option R) (k : Ob → Option R) : Option R :=
 bif r.beq o.lay then
   match o, p with
   | .row u' l, [] => castK (.sl u') (.sl u) l fun l0 => f l0 fun l1 => castK (.sl u) (.sl u') l1 fun l2 => k (.row u' l2)
   | o, p => z1gk o p u f k
 else none
def copyK {R : Type} (P : Program) (σ : TS) (xs : List TV) (ts : List TypeId) (k : Nat → TypeId → Ob → Option R) : Option R :=
 match xs, ts with
 | [.os b r p u lo n, y], [t, t2] => match P.underlying t, σ.H[b]? with
   | some (.slice e), some (.ob el o) => bif fitTy P e u then srcK P σ.H t2 u y fun m => z1ca o r p u (fun l k => bif Nat.ble (addN lo n) (List.length l) then k (cpyL l lo n m) else none) fun o' => k b el o' else none
   | _, _ => none
 | _, _ => none
structure UpdOK (o : Ob) (off n : Nat) (q : List PV) (o' : Ob) : Prop where
 wf : o'.wf
 cells : CLe (splice o.cells off q) o'.cells
 leafs : Leafs o'.cells
 le : off + n ≤ o.cells.length
theorem z1qs {R : Type} {o : Ob} {p : List Stp} {u : U} {lo n : Nat} {m : List u.T} {k : Ob → Option R} {x : R} (hw : o.wf) (hm : ∀ y, y ∈ m → wfU u y)
   (h : z1gk o p u (fun l k => bif Nat.ble (addN lo n) (List.length l) then k (cpyL l lo n m) else none) k = some x) : ∃ o', k o' = some x ∧ UpdOK o (o.lay.off p + lo * u.size) (n * u.size) ((rowU u m).take (min m.length n * u.size)) o' := by
 unfold z1gk at h
 have hq : ((rowU u m).take (min m.length n * u.size)).length = min m.length n * u.size := by
   rw [List.length_take, z7y hm]
   have : min m.length n * u.size ≤ m.length * u.size := Nat.mul_le_mul_right _ (Nat.min_le_left _ _)
   omega
 have hq2 : min m.length n * u.size ≤ n * u.size := Nat.mul_le_mul_right _ (Nat.min_le_right _ _)
 obtain ⟨t', h1, h2⟩ := zz1 _ _ hw h
 split at h1
 · rename_i mm u' l
   obtain ⟨e, h1⟩ := z2x h1
   cases e
   have h1 : (bif Nat.ble (addN lo n) (List.length l) then castK (.sl u) (.sl u) (cpyL l lo n m) fun l2 => setO o p (.v (.arr mm u) l2) k else none) = some x := h1
   cases hb : Nat.ble (addN lo n) (List.length l) with
   | false => rw [hb] at h1; cases h1
   | true =>
     rw [hb] at h1
     simp only [cond_true] at h1
     obtain ⟨e, h1⟩ := z2x h1
     cases e
     have hle := Nat.le_of_ble_eq_true hb
     rw [zrw] at hle
     obtain ⟨g1, g2, g3⟩ := zw6 h2.wf
     have hwt := h2.wf
     simp only [TV.wf, wfU] at hwt
     have hw' : ∀ y, y ∈ cpyL l lo n m → wfU u y := fun y hy => (z1if hy).elim (g1 y) (hm y)
     have hmul : lo * u.size + n * u.size ≤ l.length * u.size := by rw [← Nat.add_mul]; exact Nat.mul_le_mul_right _ hle
     have hnew : (TV.v (.arr mm u) (cpyL l lo n m)).wf := by
       simp only [TV.wf, wfU]
       exact ⟨by rw [z1pn hle]; exact hwt.1, hw'⟩
     obtain ⟨o', k1, k2⟩ := z1et _ _ hw hnew h1
     have e6 := h2.cells; have e7 := h2.le
     rw [g2] at e6 e7
     rw [g3] at e7
     refine ⟨o', k1, k2.wf, ?_, k2.leafs, by omega⟩
     have hce := k2.cells
     rw [zh8, z1gl g1 hm hle] at hce
     rw [zhx _ _ _ _ _ (by rw [g3]; omega) (by rw [hq, g3]; omega) (by rw [g3] at e6 ⊢; exact e6)] at hce
     exact hce
 · cases h1
theorem z1hg {R : Type} {o : Ob} {r : Rt} {p : List Stp} {u : U} {lo n : Nat} {m : List u.T} {k : Ob → Option R} {x : R} (hw : o.wf) (hm : ∀ y, y ∈ m → wfU u y)
   (h : z1ca o r p u (fun l k => bif Nat.ble (addN lo n) (List.length l) then k (cpyL l lo n m) else none) k = some x) : ∃ o', k o' = some x ∧ UpdOK o (r.off p + lo * u.size) (n * u.size) ((rowU u m).take (min m.length n * u.size)) o' := by
 unfold z1ca at h
 have hq : ((rowU u m).take (min m.length n * u.size)).length = min m.length n * u.size := by
   rw [List.length_take, z7y hm]
   have : min m.length n * u.size ≤ m.length * u.size := Nat.mul_le_mul_right _ (Nat.min_le_left _ _)
   omega
 have hq2 : min m.length n * u.size ≤ n * u.size := Nat.mul_le_mul_right _ (Nat.min_le_right _ _)
 cases hc : r.beq o.lay with
 | false => rw [hc] at h; cases h
 | true =>
   rw [hc] at h
   have e := Rt.beq_eq hc
   subst e
   simp only [cond_true] at h
   split at h
   · rename_i u' l
     obtain ⟨e, h⟩ := z2x h
     cases e
     have h : (bif Nat.ble (addN lo n) (List.length l) then castK (.sl u) (.sl u) (cpyL l lo n m) fun l2 => k (Ob.row u l2) else none) = some x := h
     cases hb : Nat.ble (addN lo n) (List.length l) with
     | false => rw [hb] at h; cases h
     | true =>
       rw [hb] at h
       simp only [cond_true] at h
       obtain ⟨e, h⟩ := z2x h
       cases e
       have hle := Nat.le_of_ble_eq_true hb
       rw [zrw] at hle
       have hwl : ∀ y, y ∈ l → wfU u y := hw
       have hw' : ∀ y, y ∈ cpyL l lo n m → wfU u y := fun y hy => (z1if hy).elim (hwl y) (hm y)
       have hmul : lo * u.size + n * u.size ≤ l.length * u.size := by rw [← Nat.add_mul]; exact Nat.mul_le_mul_right _ hle
       refine ⟨_, h, hw', ?_, z3z hw', ?_⟩
       · simp only [Ob.cells, Ob.lay, Rt.off, Nat.zero_add]
         rw [z1gl hwl hm hle]; exact CLe.refl _
       · simp only [Ob.cells, Ob.lay, Rt.off, Nat.zero_add, z7y hwl]; exact hmul
   · exact z1qs hw hm h
structure CopyOK (P : Program) (o : Oper) (σ : TS) (b : Nat) (e : TypeId) (ob' : Ob) : Prop where
 wf : ob'.wf
 lt : b < σ.H.length
 step : ∀ N : AS → Prop, N (({ σ.flat with H := σ.flat.H.set b (.row ob'.cells e) } : AS).put o.dst .dead) → Step P o σ.flat N
theorem z1mi {R : Type} {P : Program} {o : Oper} {σ : TS} {xs : Array Operand} {ts : Array TypeId} {k : Nat → TypeId → Ob → Option R} {r : R} (ho : o.op = .call { callee := .builtin .copy, args := xs, argTypes := ts }) (hw : σ.wf)
   (h : copyK P σ (xs.toList.map σ.eval) ts.toList k = some r) : ∃ b e ob', k b e ob' = some r ∧ CopyOK P o σ b e ob' := by
 unfold copyK at h
 generalize hm : xs.toList.map σ.eval = m at h
 generalize hts : ts.toList = l at h
 split at h
 · rename_i b rt p u lo n y' t t2
   obtain ⟨x, y, rfl, hx, hy⟩ := zy1 hm
   have e := z8e hts; subst e
   split at h
   · rename_i e el ob hu hb
     cases hc : fitTy P e u with
     | false => rw [hc] at h; cases h
     | true =>
       rw [hc] at h
       simp only [cond_true] at h
       rw [← hy] at h
       obtain ⟨m', h1, h2, h3, h4⟩ := z1hj hw h
       have hob := hw.H _ (List.mem_of_getElem? hb)
       obtain ⟨o', k1, k2⟩ := z1hg hob h2 h1
       have hblt : b < σ.H.length := (List.getElem?_eq_some_iff.1 hb).1
       refine ⟨b, el, o', k1, k2.wf, hblt, fun N hN => ?_⟩
       have ex : σ.flat.eval x = .sl b (rt.off p + lo * u.size) n u.size := by rw [z0i hx (by simp)]; simp only [TV.pv]
       have hstep := z1nk (P := P) (σ := σ.flat) (N := fun τ => τ = ({ σ.flat with H := σ.flat.H.set b (.row (splice ob.cells (rt.off p + lo * u.size) ((rowU u m').take (min m'.length n * u.size))) el) } : AS).put o.dst (.val (.int .i64 (min m'.length n : Nat)))) ho hu (z7i hc).2 ex (flatH hb) k2.le (h4 σ.flat.H fun _ _ => rfl) rfl
       intro c a w K Q hr hK
       refine hstep c a w K Q hr fun c' a' w' τ hτ hr' hx' hd => hK c' a' w' _ hN ?_ hx' hd
       subst hτ
       have hblf : b < σ.flat.H.length := by simpa [TS.flat] using hblt
       have putH : ∀ (τ : AS) (p : PV), (τ.put o.dst p).H = τ.H ∧ (τ.put o.dst p).ts = τ.ts ∧ (τ.put o.dst p).n = τ.n := fun τ p => by cases o.dst <;> exact ⟨rfl, rfl, rfl⟩
       refine ⟨?_, ?_⟩
       · have g := hr'.1
         rw [(putH _ _).1, (putH _ _).2.1] at g ⊢
         refine Good.le g (by simp) fun i o1 o2 e1 e2 => ?_
         by_cases hi : b = i
         · subst hi
           rw [List.getElem?_set_self hblf] at e1 e2
           cases e1; cases e2
           exact ⟨rfl, k2.cells, k2.leafs⟩
         · rw [List.getElem?_set_ne hi] at e1 e2
           rw [e1] at e2; cases e2
           exact z1fl hw.H _ (List.mem_of_getElem? e1)
       · have hs := hr'.2
         cases hdd : o.dst with
         | none => rw [hdd] at hs; exact hs
         | some d =>
           rw [hdd] at hs
           refine ⟨hs.1, fun t q hl hlt => ?_⟩
           simp only [AS.put, Ab.look] at hl
           cases hbd : Nat.beq d t with
           | true =>
             rw [hbd] at hl
             simp only [cond_true, Option.some.injEq] at hl
             subst hl
             have := Nat.eq_of_beq_eq_true hbd
             subst this
             have hsz : d < a'.tmps.size := by rw [hs.1]; exact hlt
             exact ⟨a'.tmps[d], by simp [hsz], zr9 _⟩
           | false =>
             rw [hbd] at hl
             have := hs.2 t q (by simp only [AS.put, Ab.look, hbd, cond_false]; exact hl) hlt
             exact this
   · cases h
 · cases h
theorem z1ot {P : Program} {o : Oper} {σ : TS} {b : Nat} {el : TypeId} {cells : List PV} {o' : Ob} (hw : σ.wf) (hblt : b < σ.H.length) (hce : CLe cells o'.cells) (hlf : Leafs o'.cells) {q : PV} (hq : ∀ (c : Cx) (w : World) (v : Value), VR w c q v → True)
   (hstep : Step P o σ.flat (fun τ => τ = ({ σ.flat with H := σ.flat.H.set b (.row cells el) } : AS).put o.dst q)) : ∀ N : AS → Prop, N (({ σ.flat with H := σ.flat.H.set b (.row o'.cells el) } : AS).put o.dst .dead) → Step P o σ.flat N := by
       intro N hN
       intro c a w K Q hr hK
       refine hstep c a w K Q hr fun c' a' w' τ hτ hr' hx' hd => hK c' a' w' _ hN ?_ hx' hd
       subst hτ
       have hblf : b < σ.flat.H.length := by simpa [TS.flat] using hblt
       have putH : ∀ (τ : AS) (p : PV), (τ.put o.dst p).H = τ.H ∧ (τ.put o.dst p).ts = τ.ts ∧ (τ.put o.dst p).n = τ.n := fun τ p => by cases o.dst <;> exact ⟨rfl, rfl, rfl⟩
       refine ⟨?_, ?_⟩
       · have g := hr'.1
         rw [(putH _ _).1, (putH _ _).2.1] at g ⊢
         refine Good.le g (by simp) fun i o1 o2 e1 e2 => ?_
         by_cases hi : b = i
         · subst hi
           rw [List.getElem?_set_self hblf] at e1 e2
           cases e1; cases e2
           exact ⟨rfl, hce, hlf⟩
         · rw [List.getElem?_set_ne hi] at e1 e2
           rw [e1] at e2; cases e2
           exact z1fl hw.H _ (List.mem_of_getElem? e1)
       · have hs := hr'.2
         cases hdd : o.dst with
         | none => rw [hdd] at hs; exact hs
         | some d =>
           rw [hdd] at hs
           refine ⟨hs.1, fun t q hl hlt => ?_⟩
           simp only [AS.put, Ab.look] at hl
           cases hbd : Nat.beq d t with
           | true =>
             rw [hbd] at hl
             simp only [cond_true, Option.some.injEq] at hl
             subst hl
             have := Nat.eq_of_beq_eq_true hbd
             subst this
             have hsz : d < a'.tmps.size := by rw [hs.1]; exact hlt
             exact ⟨a'.tmps[d], by simp [hsz], zr9 _⟩
           | false =>
             rw [hbd] at hl
             have := hs.2 t q (by simp only [AS.put, Ab.look, hbd, cond_false]; exact hl) hlt
             exact this
def z1gx {R : Type} (P : Program) (σ : TS) (xs : List TV) (ts : List TypeId) (k : Nat → TypeId → Ob → Option R) : Option R :=
 match xs, ts with
 | [.os b r p u lo n], [t] => match P.underlying t, σ.H[b]? with
   | some (.slice e), some (.ob el o) => match z9t P e with
     | some z => bif fitTy P e u && !Nat.beq u.size 0 && Nat.beq z.length u.size && u.solid && pvLeL z (cellU u (zeroU u)) && z.all leaf then
         z1ca o r p u (fun l k => bif Nat.ble (addN lo n) (List.length l) then k (cpyL l lo n (List.replicate n (zeroU u))) else none) fun o' => k b el o' else none
     | none => none
   | _, _ => none
 | _, _ => none
theorem z1qz {σ : TS} {xs : Array Operand} {a : TV} (h : xs.toList.map σ.eval = [a]) : ∃ x, xs = #[x] ∧ σ.eval x = a := by
 rcases xs with ⟨l⟩
 match l with
 | [] => simp at h
 | [x] => exact ⟨x, rfl, by simpa using h⟩
 | _ :: _ :: _ => simp at h
theorem z1l6 {cs q q' : List PV} {off : Nat} (h : CLe q q') : CLe (splice cs off q) (splice cs off q') := by
 unfold splice
 rw [h.1]
 exact CLe.append (CLe.append (CLe.refl _) h) (CLe.refl _)
theorem z1kw {R : Type} {P : Program} {o : Oper} {σ : TS} {xs : Array Operand} {ts : Array TypeId} {k : Nat → TypeId → Ob → Option R} {r : R} (ho : o.op = .call { callee := .builtin .clear, args := xs, argTypes := ts }) (hw : σ.wf)
   (h : z1gx P σ (xs.toList.map σ.eval) ts.toList k = some r) : ∃ b e ob', k b e ob' = some r ∧ CopyOK P o σ b e ob' := by
 unfold z1gx at h
 generalize hm : xs.toList.map σ.eval = m at h
 generalize hts : ts.toList = l at h
 split at h
 · rename_i b rt p u lo n t
   obtain ⟨x, rfl, hx⟩ := z1qz hm
   have e := z8e hts; subst e
   split at h
   · rename_i e el ob hu hb
     split at h
     · rename_i z hz
       cases hc : fitTy P e u && !Nat.beq u.size 0 && Nat.beq z.length u.size && u.solid && pvLeL z (cellU u (zeroU u)) && z.all leaf with
       | false => rw [hc] at h; cases h
       | true =>
         rw [hc] at h
         simp only [Bool.and_eq_true, Bool.not_eq_true'] at hc
         obtain ⟨⟨⟨⟨⟨c2, c4⟩, c5⟩, c6⟩, c7⟩, c8⟩ := hc
         simp only [cond_true] at h
         have hzw := zra u c6
         have hwr : ∀ y, y ∈ List.replicate n (zeroU u) → wfU u y := fun y hy => by rw [List.eq_of_mem_replicate hy]; exact hzw
         have hob := hw.H _ (List.mem_of_getElem? hb)
         obtain ⟨o', k1, k2⟩ := z1hg hob hwr h
         have hblt : b < σ.H.length := (List.getElem?_eq_some_iff.1 hb).1
         have ex : σ.flat.eval x = .sl b (rt.off p + lo * u.size) n u.size := by rw [z0i hx (by simp)]; simp only [TV.pv]
         have hzl : Leafs z := fun p hp => List.all_eq_true.1 c8 p hp
         have hstep := z1ks (P := P) (σ := σ.flat) (N := fun τ => τ = ({ σ.flat with H := σ.flat.H.set b (.row (splice ob.cells (rt.off p + lo * u.size) (List.replicate n z).flatten) el) } : AS).put o.dst .dead) ho hu hz (Nat.eq_of_beq_eq_true c5) hzl (fun e0 => by rw [e0] at c4; simp at c4) ex (flatH hb) k2.le rfl
         have hrow : (rowU u (List.replicate n (zeroU u))).take (min (List.replicate n (zeroU u)).length n * u.size) = (List.replicate n (cellU u (zeroU u))).flatten := by
           rw [← z14u, List.take_of_length_le]
           rw [z7y hwr, List.length_replicate, Nat.min_self]
           exact Nat.le_refl _
         have hce := k2.cells
         rw [hrow] at hce
         exact ⟨b, el, o', k1, k2.wf, hblt, z1ot hw hblt (CLe.trans (z1l6 (zsb (zpq c7) n)) hce) k2.leafs (fun _ _ _ _ => trivial) hstep⟩
     · cases h
   · cases h
 · cases h
def butF (b : Nat) : Nat → Fate := fun i => bif Nat.beq i b then .gone else .to i
theorem z1fq (b : Nat) : (fun i => (butF b i).name) = z8g b := by
 funext i
 simp only [butF, z8g]
 cases Nat.beq i b <;> rfl
def Ob.mv (g : Nat → Fate) : Ob → Ob
 | .var t => .var (t.mv g)
 | .row u l => .row u l
def TOb.mv (g : Nat → Fate) : TOb → TOb
 | .ob e o => .ob e (o.mv g)
 | .gone => .gone
theorem zws {f : Nat → Option Nat} (p : PV) : cellsOf (p.ren f) = rens f (cellsOf p) := by
 have one : ∀ q : PV, rens f [q] = [q.ren f] := fun q => by simp only [rens]
 cases p <;> first | (simp only [PV.ren, cellsOf, one]; done) | skip
 · rename_i b off; simp only [PV.ren]; split <;> simp_all only [cellsOf, rens, PV.ren]
 · rename_i b off len sz; simp only [PV.ren]; split <;> simp_all only [cellsOf, rens, PV.ren]
theorem z1j2 (f : Nat → Option Nat) (a b : List PV) : rens f (a ++ b) = rens f a ++ rens f b := by simp [z13m]
mutual
theorem z11l {g : Nat → Fate} (hg : ∀ b o, g b ≠ .fz o) : ∀ t : TV, t.wf → (t.mv g).pv = t.pv.ren fun b => (g b).name
 | .v u x, h => by
   simp only [TV.wf] at h
   simp only [TV.mv, TV.pv, (z1mw h).1]
 | .ptr b r p, _ => by
   simp only [TV.mv, TV.pv, PV.ren]
   cases hb : g b with
   | to j => simp only [Fate.name, TV.pv]
   | gone => simp only [Fate.name, TV.pv]
   | fz o => exact absurd hb (hg b o)
 | .os b r p u lo n, _ => by
   simp only [TV.mv, TV.pv, PV.ren]
   cases hb : g b with
   | to j => simp only [Fate.name, TV.pv]
   | gone => simp only [Fate.name, TV.pv]
   | fz o => exact absurd hb (hg b o)
 | .rf t, h => by
   simp only [TV.wf] at h
   simp only [TV.mv, TV.pv, PV.ren, z11l hg t h.1, zws]
 | .agg ts, h => by
   simp only [TV.wf] at h
   simp only [TV.mv, TV.pv, PV.ren, z1k4 hg ts h.2.1]
 | .tup ts, h => by
   simp only [TV.wf] at h
   simp only [TV.mv, TV.pv, PV.ren, z1ae hg ts h]
 | .fn f ts, h => by
   simp only [TV.wf] at h
   simp only [TV.mv, TV.pv, PV.ren, z1ae hg ts h]
 | .ifc t x, h => by
   simp only [TV.wf] at h
   simp only [TV.mv, TV.pv, PV.ren, z11l hg x h]
 | .fsl u l, h => by
   simp only [TV.wf] at h
   simp only [TV.mv, TV.pv, PV.ren, z8b (z7r h)]
 | .osf u l lo n, h => by
   simp only [TV.wf] at h
   have hp : Pures (List.take (n * u.size) (List.drop (lo * u.size) (rowU u l))) := z4s.2 fun p hp => z4s.1 (z7r h) p (List.mem_of_mem_drop (List.mem_of_mem_take hp))
   simp only [TV.mv, TV.pv, PV.ren, z8b hp]
 | .nil, _ => by simp only [TV.mv, TV.pv, PV.ren, rens]
 | .one, _ | .nilp, _ | .nilf, _ | .yl _, _ | .nili, _ | .nilm, _ | .dead, _ => by simp only [TV.mv, TV.pv, PV.ren]
theorem z1k4 {g : Nat → Fate} (hg : ∀ b o, g b ≠ .fz o) : ∀ ts : List TV, TV.wfs ts → TV.cellsL (mvs g ts) = rens (fun b => (g b).name) (TV.cellsL ts)
 | [], _ => rfl
 | t :: ts, h => by
   simp only [TV.wfs] at h
   simp only [mvs, TV.cellsL, z11l hg t h.1, zws, z1k4 hg ts h.2, z1j2]
theorem z1ae {g : Nat → Fate} (hg : ∀ b o, g b ≠ .fz o) : ∀ ts : List TV, TV.wfs ts → TV.pvs (mvs g ts) = rens (fun b => (g b).name) (TV.pvs ts)
 | [], _ => rfl
 | t :: ts, h => by
   simp only [TV.wfs] at h
   simp only [mvs, TV.pvs, rens, z11l hg t h.1, z1ae hg ts h.2]
end
theorem z11z (b : Nat) : ∀ i o, butF b i ≠ .fz o := fun i o => by
 simp only [butF]
 cases Nat.beq i b <;> simp
theorem ob_mv {b : Nat} {o : TOb} (hw : o.wf) : (o.mv (butF b)).flat = o.flat.ren (z8g b) ∧ (o.mv (butF b)).wf := by
 cases o with
 | gone => exact ⟨rfl, trivial⟩
 | ob e o =>
   cases o with
   | row u l => exact ⟨by simp only [TOb.mv, Ob.mv, TOb.flat, AObj.ren, Ob.cells, z8b (z7r hw)], hw⟩
   | var t =>
     have h1 := z11l (z11z b) t hw.1
     rw [z1fq] at h1
     refine ⟨?_, ?_⟩
     · simp only [TOb.mv, Ob.mv, TOb.flat, AObj.ren, Ob.cells, TV.cells, h1, zws]
     · have := mv_wf (fun b' o' h => absurd h (z11z b b' o')) t hw.1
       exact ⟨this.1, this.2 hw.2⟩
def butS (b : Nat) (l : List (Nat × TV)) : List (Nat × TV) := l.map fun x => (x.1, x.2.mv (butF b))
theorem z1f0 : ∀ {b : Nat} {l : List (Nat × TV)} {t : Nat}, lookT (butS b l) t = (lookT l t).map (TV.mv (butF b))
 | b, [], t => rfl
 | b, (s, v) :: l, t => by
   simp only [butS, List.map_cons, lookT]
   cases Nat.beq s t with
   | true => rfl
   | false => exact z1f0
def z1n4 {R : Type} (P : Program) (t t2 : TypeId) (u : U) (l : List u.T) (y : TV) (k : List u.T → Option R) : Option R :=
 match P.underlying t, P.underlying t2, y with
 | some (.slice e), some (.int _), .v (.int .i64) n => match z9t P e, (P.info? e).map (·.bytes) with
   | some z, some nb => bif fitTy P e u && !Nat.beq nb 0 && !Nat.beq u.size 0 && Nat.beq z.length u.size && u.solid && pvLeL z (cellU u (zeroU u)) && z.all leaf && leI 1 n then appG l.length n.toNat nb fun _ => k (List.replicate n.toNat (zeroU u)) else none
   | _, _ => none
 | _, _, _ => none
def isInt (P : Program) (t2 : TypeId) : Bool :=
 match P.underlying t2 with
 | some (.int _) => true
 | _ => false
def appOK {R : Type} (P : Program) (σ : TS) (xs : List TV) (ts : List TypeId) (k : Nat → TypeId → (u : U) → List u.T → Option R) : Option R :=
 match xs, ts with
 | [.os b r [] u 0 n, y], [t, t2] => match σ.H[b]? with
   | some (.ob e (.row u' l)) => bif r.beq (.row u'.canon) && Nat.ble σ.p b && (match P.underlying t with | some (.slice e') => Nat.beq e' e | _ => false) && u.beq u' then
       (bif Nat.beq n (List.length l) then (bif isInt P t2 then z1n4 P t t2 u' l y fun m => k b e u' (l ++ m) else zoh P σ.H t t2 u' l y fun m => k b e u' (l ++ m)) else none) else none
   | _ => none
 | _, _ => none
structure AppendOK (P : Program) (o : Oper) (σ : TS) (b : Nat) (e : TypeId) (u : U) (l : List u.T) : Prop where
 wf : ∀ x, x ∈ l → wfU u x
 step : ∀ N : TS → Prop, N { σ with slots := (match o.dst with | some d => [(d, .os σ.H.length (.row u.canon) [] u 0 l.length)] | none => []) ++ butS b σ.slots, H := (σ.H.set b .gone).map (TOb.mv (butF b)) ++ [.ob e (.row u l)] } → TStep P o σ N
theorem z1px {R : Type} {P : Program} {o : Oper} {σ : TS} {xs : Array Operand} {ts : Array TypeId} {k : Nat → TypeId → (u : U) → List u.T → Option R} {r : R} (ho : o.op = .call { callee := .builtin .append, args := xs, argTypes := ts }) (hw : σ.wf)
   (h : appOK P σ (xs.toList.map σ.eval) ts.toList k = some r) : ∃ b e u l, k b e u l = some r ∧ AppendOK P o σ b e u l := by
 unfold appOK at h
 generalize hm : xs.toList.map σ.eval = m at h
 generalize hts : ts.toList = tl at h
 split at h
 · rename_i b rt u n y' t t2
   obtain ⟨x, y, rfl, hx, hy⟩ := zy1 hm
   have e := z8e hts; subst e
   split at h
   · rename_i e u' l hb
     cases hc : rt.beq (.row u'.canon) && Nat.ble σ.p b && (match P.underlying t with | some (.slice e') => Nat.beq e' e | _ => false) && u.beq u' with
     | false => rw [hc] at h; cases h
     | true =>
       rw [hc] at h
       simp only [Bool.and_eq_true] at hc
       obtain ⟨⟨⟨c1, c2⟩, c3⟩, c4⟩ := hc
       have e1 := Rt.beq_eq c1
       subst e1
       have e2 := Nat.le_of_ble_eq_true c2
       have e4 := U.beq_eq c4
       subst e4
       simp only [cond_true] at h
       cases hn : Nat.beq n (List.length l) with
       | false => rw [hn] at h; cases h
       | true =>
         rw [hn] at h
         have e5 := Nat.eq_of_beq_eq_true hn
         subst e5
         simp only [cond_true] at h
         have hwl : ∀ z, z ∈ l → wfU u z := hw.H _ (List.mem_of_getElem? hb)
         have fin : ∀ (m' : List u.T), k b e u (l ++ m') = some r → (∀ z, z ∈ m' → wfU u z) → (∀ (c : Cx) (a : Act) (w : World) (K : Act → World → Prop) (Q : Exit → Act → World → Prop), RelC w c σ.flat a → c.pn ≤ b →
             (∀ v w' c2, Ab.Good w' c2 ((σ.flat.H.set b .gone).map (AObj.ren (z8g b)) ++ [.row (rens (z8g b) (rowU u l ++ rowU u m')) e]) [] → VR w' c2 (.sl σ.flat.H.length 0 (l.length + m'.length) u.size) v → ExtP c.pn w c w' c2 → Mv (z8g b) w c w' c2 → K (a.put o.dst v) w') → o.wp P a w K Q) →
             ∃ b e u l, k b e u l = some r ∧ AppendOK P o σ b e u l := by
           intro m' h1 hwm W
           have hall : ∀ z, z ∈ l ++ m' → wfU u z := fun z hz => (List.mem_append.1 hz).elim (hwl z) (hwm z)
           refine ⟨b, e, u, l ++ m', h1, hall, fun N hN => ?_⟩
           intro c a w K Q hr hK
           refine W c a w K Q hr.2 (by rw [hr.1]; exact e2) fun v w' c2 hg hv hxp hmv => ?_
           have hpn : c2.pn = σ.p := by rw [hxp.pn, hr.1]
           refine hK c2 _ w' _ hN ⟨fun z hz => ?_, fun q hq => ?_⟩ ⟨hpn, ?_, ?_⟩ (hr.1 ▸ hxp) (Act.put_defers' _ _ _)
           · rcases List.mem_append.1 hz with hz | hz
             · cases hd : o.dst with
               | none => rw [hd] at hz; cases hz
               | some d => rw [hd] at hz; simp at hz; subst hz; simp only [TV.wf]
             · simp only [butS, List.mem_map] at hz
               obtain ⟨z', hz', rfl⟩ := hz
               exact (mv_wf (fun b' o' h => absurd h (z11z b b' o')) _ (hw.slots _ hz')).1
           · rcases List.mem_append.1 hq with hq | hq
             · simp only [List.mem_map] at hq
               obtain ⟨q', hq', rfl⟩ := hq
               refine (ob_mv ?_).2
               rcases List.mem_or_eq_of_mem_set hq' with hq' | hq'
               · exact hw.H _ hq'
               · rw [hq']; trivial
             · simp only [List.mem_singleton] at hq; subst hq; exact hall
           · have eH : (σ.H.set b TOb.gone).map (fun o => (o.mv (butF b)).flat) = ((σ.H.map TOb.flat).set b .gone).map (AObj.ren (z8g b)) := by
               rw [← show TOb.flat .gone = AObj.gone from rfl, ← List.map_set, List.map_map]
               refine List.map_congr_left fun q hq => ?_
               refine (ob_mv ?_).1
               rcases List.mem_or_eq_of_mem_set hq with hq | hq
               · exact hw.H _ hq
               · rw [hq]; trivial
             have hg' := hg
             simp only [TS.flat] at hg' ⊢
             rw [List.map_append, List.map_map]
             have e6 : rens (z8g b) (rowU u l ++ rowU u m') = rowU u (l ++ m') := by
               rw [← z10i, z8b (z7r hall)]
             rw [e6] at hg'
             rw [show (TOb.flat ∘ TOb.mv (butF b)) = fun o => (o.mv (butF b)).flat from rfl, eH]
             exact hg'
           · have hsz : (a.put o.dst v).tmps.size = σ.n := by
               have := hr.2.2.1
               cases o.dst with
               | none => exact this
               | some d => simp only [Act.put, Array.size_setIfInBounds]; exact this
             refine ⟨hsz, fun t0 q hl hlt => ?_⟩
             simp only [TS.flat] at hl hlt
             rw [zfj] at hl
             have old : ∀ z, lookT (butS b σ.slots) t0 = some z → ∃ v0, a.tmps[t0]? = some v0 ∧ VR w' c2 z.pv v0 := fun z hz => by
               rw [z1f0] at hz
               cases hz0 : lookT σ.slots t0 with
               | none => rw [hz0] at hz; cases hz
               | some z0 =>
                 rw [hz0] at hz
                 simp only [Option.map_some, Option.some.injEq] at hz
                 subst hz
                 obtain ⟨v0, k1, k2⟩ := hr.2.2.2 t0 z0.pv (by simp only [TS.flat]; rw [zfj, hz0]; rfl) hlt
                 obtain ⟨zz, k3, k4⟩ := zp1 hz0
                 have hwz : z0.wf := k4 ▸ hw.slots _ k3
                 refine ⟨v0, k1, ?_⟩
                 rw [z11l (z11z b) z0 hwz, z1fq]
                 exact VR.move hmv _ k2
             cases hd : o.dst with
             | none =>
               rw [hd] at hl
               simp only [List.nil_append] at hl
               cases hz : lookT (butS b σ.slots) t0 with
               | none => rw [hz] at hl; cases hl
               | some z =>
                 rw [hz] at hl
                 simp only [Option.map_some, Option.some.injEq] at hl
                 subst hl
                 exact old z hz
             | some d =>
               rw [hd] at hl
               simp only [List.cons_append, List.nil_append, lookT] at hl
               simp only [Act.put]
               cases hbd : Nat.beq d t0 with
               | true =>
                 rw [hbd] at hl
                 simp only [cond_true, Option.map_some, Option.some.injEq] at hl
                 subst hl
                 have := Nat.eq_of_beq_eq_true hbd
                 subst this
                 have hsz0 : d < a.tmps.size := by rw [hr.2.2.1]; exact hlt
                 refine ⟨v, by rw [Array.getElem?_setIfInBounds_self_of_lt hsz0], ?_⟩
                 simp only [TV.pv, Rt.off, Nat.zero_mul, Nat.zero_add, List.length_append]
                 have hv' := hv
                 simp only [TS.flat, List.length_map] at hv'
                 exact hv'
               | false =>
                 rw [hbd] at hl
                 simp only [cond_false] at hl
                 have hne : d ≠ t0 := fun e => by rw [e, Nat.beq_refl] at hbd; cases hbd
                 cases hz : lookT (butS b σ.slots) t0 with
                 | none => rw [hz] at hl; cases hl
                 | some z =>
                   rw [hz] at hl
                   simp only [Option.map_some, Option.some.injEq] at hl
                   subst hl
                   obtain ⟨v0, k1, k2⟩ := old z hz
                   exact ⟨v0, by rw [Array.getElem?_setIfInBounds_ne hne]; exact k1, k2⟩
         have ex : σ.flat.eval x = .sl b 0 l.length u.size := by rw [z0i hx (by simp)]; simp only [TV.pv, Rt.off, Nat.zero_mul, Nat.zero_add]
         cases hi : isInt P t2 with
         | false =>
           rw [hi, cond_false, ← hy] at h
           obtain ⟨m', e', nb, h1, h2⟩ := zu8 hw h
           have hty := h2.ty
           rw [hty] at c3
           have := Nat.eq_of_beq_eq_true c3
           subst this
           exact fin m' h1 h2.wf fun c a w K Q hr hpn hK => z1l5 (P := P) (σ := σ.flat) ho hty h2.el h2.src ex (flatH hb) (z7y hwl) (h2.srcN σ.flat.H fun _ _ => rfl).ok h2.le hr rfl hpn hK
         | true =>
           rw [hi, cond_true] at h
           unfold z1n4 at h
           split at h
           · rename_i e0 kn n hu ht2
             rw [hu] at c3
             have := Nat.eq_of_beq_eq_true c3
             subst this
             split at h
             · rename_i z nb hz hnb
               cases hc : fitTy P e0 u && !Nat.beq nb 0 && !Nat.beq u.size 0 && Nat.beq z.length u.size && u.solid && pvLeL z (cellU u (zeroU u)) && z.all leaf && leI 1 n with
               | false => rw [hc] at h; cases h
               | true =>
                 rw [hc] at h
                 simp only [Bool.and_eq_true, Bool.not_eq_true'] at hc
                 obtain ⟨⟨⟨⟨⟨⟨⟨d1, d2⟩, d3⟩, d4⟩, d5⟩, d6⟩, d7⟩, d8⟩ := hc
                 simp only [cond_true, appG] at h
                 cases hg : Nat.ble ((l.length + n.toNat) * nb) 140737488355328 with
                 | false => rw [hg] at h; cases h
                 | true =>
                   rw [hg, cond_true] at h
                   have hle := Nat.le_of_ble_eq_true hg
                   have hn1 : 1 ≤ n := by simpa [leI] using d8
                   obtain ⟨m, rfl⟩ : ∃ m : Nat, n = (m : Int) := ⟨Int.toNat n, (Int.toNat_of_nonneg (Int.le_trans (by decide) hn1)).symm⟩
                   simp only [Int.toNat_natCast] at h hle
                   have hu0 : u.size ≠ 0 := fun e => by rw [e] at d3; cases d3
                   have hel : ElemT P e0 u.size nb := ⟨(z7i d1).2, hnb, fun e => by rw [e] at d2; simp at d2, z, hz, Nat.eq_of_beq_eq_true d4⟩
                   have hzw := zra u d5
                   have hwr : ∀ y, y ∈ List.replicate m (zeroU u) → wfU u y := fun y hy => by rw [List.eq_of_mem_replicate hy]; exact hzw
                   refine fin _ h hwr fun c a w K Q hr hpn hK => ?_
                   have hyv' : a.eval y = .int .i64 m := by
                     have hev := hr.2.eval y
                     rw [z0i (t := .v (.int .i64) (m : Int)) hy (by simp)] at hev
                     simp only [TV.pv, pvU, VR] at hev
                     exact hev.1
                   have hmb : m * nb ≤ 2 ^ 47 := by
                     rw [Nat.add_mul] at hle; omega
                   obtain ⟨us, q1, q2, q3⟩ := z1pj (w := w) (k := .i64) hu hel ht2 hz (Nat.eq_of_beq_eq_true d4) (by have : (1 : Int) ≤ (m : Int) := hn1; omega : 0 < m) hu0 hmb
                   have hcl : CLe (List.replicate m z).flatten (rowU u (List.replicate m (zeroU u))) := by
                     rw [z14u]
                     exact zsb (zpq d6) _
                   refine z1cj (P := P) (σ := σ.flat) (m := m) (nb := nb) ho hu hel ex (flatH hb) (z7y hwl) (by rw [z7y hwr, List.length_replicate]) (z3z hwr) ⟨us, q1, zbd ⟨_, _, hr.1⟩ hcl (q2 c), by rw [hyv']; exact q3⟩ (by omega) hr rfl hpn ?_
                   rw [List.length_replicate] at hK
                   exact hK
             · cases h
           · cases h
   · cases h
 · cases h
end Go.Tm