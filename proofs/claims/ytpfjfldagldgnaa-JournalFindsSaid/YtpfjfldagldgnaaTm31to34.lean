import Derived.Test.YtpfjfldagldgnaaTm26to30
import Derived.Test.YtpfjfldagldgnaaTm16to20
import Derived.RangeFuncIn
set_option linter.unusedSimpArgs false
set_option linter.unusedVariables false
namespace Go.Tm
open Go.Ab
def embP (A : List Pat) (x : LT (z0b A)) : List TV := (fillL (fun _ => 0) A (z2n (z0b A) x)).1
def z1hc {R : Type} (A : List Pat) (args : List TV) (k : LT (z0b A) → Option R) : Option R :=
 match z3w A args with
 | some la => sealT (z0b A) la fun x => zlq (fun _ => 0) (zcn A args) (k x)
 | none => none
theorem z1ac {R : Type} {A : List Pat} {args : List TV} {k : LT (z0b A) → Option R} {r : R} (hwa : TV.wfs args) (h : z1hc A args k = some r) : ∃ x, k x = some r ∧ FitsL args (embP A x) := by
 unfold z1hc at h
 split at h
 · rename_i la ha
   have hlw := zex _ _ hwa ha
   obtain ⟨x, h1, h2, h3, h4⟩ := zvu (z0b A) _ hlw h
   obtain ⟨h1, hg⟩ := zsc h1
   refine ⟨x, h1, ?_⟩
   unfold embP
   generalize hvs : z2n (z0b A) x = vs at h3 h4
   obtain ⟨ts', f1, f2⟩ := zhk (lens := fun _ => 0) A args [] hwa ha ⟨h3.symm, h4⟩ hg
   rw [List.append_nil] at f1
   rw [f1]; exact f2
 · cases h
def isYl (o : Oper) (σ : TS) : Bool :=
 match o.op with
 | .call { callee := .value fo, args := _, argTypes := _ } => match σ.eval fo with
   | .yl _ => true
   | _ => false
 | _ => false
def frzY (own : List Nat) (i : Nat) (o : Oper) (σ : TS) : List Nat :=
 bif memN own i then (match o.op with
   | .call { callee := _, args := xs, argTypes := _ } => xs.toList.flatMap fun x => objsT (σ.eval x)
   | _ => []) else []
def z10y {R : Type} (A : List Pat) (dec : Nat → List (LT (z0b A)) → Option Bool) (o : Oper) (tr : List (LT (z0b A))) (σ : TS) (k : List (LT (z0b A)) → TS → Option R) : Option R :=
 match o.op with
 | .call { callee := .value fo, args := xs, argTypes := _ } => match σ.eval fo with
   | .yl l => z1hc A (xs.toList.map σ.eval) fun x => (dec l (tr ++ [x])).bind fun b => k (tr ++ [x]) (σ.put o.dst (.v .bool b))
   | _ => none
 | _ => none
def z15x {R : Type} (A : List Pat) (dec : Nat → List (LT (z0b A)) → Option Bool) (own : List Nat) (i : Nat) (o : Oper) (tr : List (LT (z0b A))) (σ : TS) (k : List (LT (z0b A)) → TS → Option R) : Option R :=
 match frzY own i o σ with
 | [] => z10y A dec o tr σ k
 | b :: bs => bif zci σ.p (keepR (List.length σ.H) σ.p (b :: bs) []) then z10y A dec o tr (stFz σ (b :: bs)) k else none
structure DecOK {P : Program} {A : List Pat} (h : Host P (LT (z0b A))) (dec : Nat → List (LT (z0b A)) → Option Bool) : Prop where
 emb : h.emb = embP A
 dec : ∀ l tr b, dec l tr = some b → l = h.l ∧ h.dec tr = some b
def YStep (P : Program) {E : Type} (h : Host P E) (ro : Option Nat) (o : Oper) (tr : List E) (σ : TS) (N : List E → TS → Prop) : Prop :=
 ∀ c ds a w (K : Act → World → Prop) (Q : Exit → Act → World → Prop), RelT w c σ a → Inv h ro ds tr w c σ.flat.H →
   (∀ c' a' w' tr' σ', N tr' σ' → σ'.wf → RelT w' c' σ' a' → Inv h ro ds tr' w' c' σ'.flat.H → a'.defers = a.defers → K a' w') → o.wpIn (Wd ro) 0 P a w K Q
theorem z1pu {P : Program} {E : Type} {h : Host P E} {ro : Option Nat} {o : Oper} {tr : List E} {σ : TS} {N : TS → Prop} (hc : ∀ c, o.op ≠ .defer c) (ht : TStep P o σ N) : YStep P h ro o tr σ (fun tr' σ' => tr' = tr ∧ N σ') := by
 intro c ds a w K Q hr hi hK
 exact z1el hc (ht c a w K Q hr fun c' a' w' σ' hN hw' hr' hx hd => hK c' a' w' tr σ' ⟨rfl, hN⟩ hw' hr' (hi.step hx hr'.2.1) hd)
theorem z19r {R : Type} {P : Program} {A : List Pat} {h : Host P (LT (z0b A))} {dec : Nat → List (LT (z0b A)) → Option Bool} (hd : DecOK h dec) {ro : Option Nat} {o : Oper} {tr : List (LT (z0b A))} {σ : TS} {k : List (LT (z0b A)) → TS → Option R} {r : R} (hw : σ.wf)
   (hh : z10y A dec o tr σ k = some r) : YStep P h ro o tr σ (fun tr' σ' => k tr' σ' = some r) := by
 unfold z10y at hh
 split at hh
 · rename_i fo xs ats ho
   split at hh
   · rename_i l hfo
     obtain ⟨x, h1, h2⟩ := z1ac (z3u.2 fun t ht => by
       simp only [List.mem_map] at ht
       obtain ⟨y, _, rfl⟩ := ht
       exact z0u hw y) hh
     rw [Option.bind_eq_some_iff] at h1
     obtain ⟨b, hb, h1⟩ := h1
     obtain ⟨e1, e2⟩ := hd.dec _ _ _ hb
     subst e1
     have ee : h.emb x = embP A x := by rw [hd.emb]
     intro c ds a w K Q hr hi hK
     refine z1kv (x := x) ho hfo ?_ ?_ ?_ e2 hr hw hi fun c' a' w' hr' hi' hdf => hK c' a' w' _ _ h1 (z7j hw _ (by simp only [TV.wf, wfU])) hr' hi' hdf
     · rw [ee]; have := h2.pvs; rwa [z4n, z4n] at this
     · rw [ee]; exact h2.wf
     · rw [ee, h2.len]; simp
   · cases hh
 · cases hh
theorem z1lx {R : Type} {P : Program} {A : List Pat} {h : Host P (LT (z0b A))} {dec : Nat → List (LT (z0b A)) → Option Bool} (hd : DecOK h dec) {ro : Option Nat} {own : List Nat} {i : Nat} {o : Oper} {tr : List (LT (z0b A))} {σ : TS} {k : List (LT (z0b A)) → TS → Option R} {r : R} (hw : σ.wf)
   (hh : z15x A dec own i o tr σ k = some r) : YStep P h ro o tr σ (fun tr' σ' => k tr' σ' = some r) := by
 unfold z15x at hh
 split at hh
 · exact z19r hd hw hh
 · rename_i b bs _
   cases hc : zci σ.p (keepR (List.length σ.H) σ.p (b :: bs) []) with
   | false => rw [hc] at hh; cases hh
   | true =>
     rw [hc] at hh
     have h1 := z19r (ro := ro) hd (σ := stFz σ (b :: bs)) (z18m hw) hh
     intro c ds a w K Q hr hi hK
     obtain ⟨q1, q2⟩ := z1hl hr hw hc (b :: bs) (hs := List.replicate (List.length σ.H) .gone) (by simp [keepR])
     exact h1 _ ds a w K Q q1 (hi.step q2 q1.2.1) hK
noncomputable def opsY {R : Type} (P : Program) (V : Env) (A : List Pat) (dec : Nat → List (LT (z0b A)) → Option Bool) (own : List Nat) (ops : Array Oper) : List Oper → Nat → List (LT (z0b A)) → TS → (List (LT (z0b A)) → TS → Option R) → Option R
 | [], _, tr, σ, k => k tr σ
 | o :: r, i, tr, σ, k => z12h ops o σ σ (fun σ => bif isYl o σ then z15x A dec own i o tr σ fun tr' σ' => opsY P V A dec own ops r (i + 1) tr' σ' k
     else effK P V own i o σ fun σ' => opsY P V A dec own ops r (i + 1) tr σ' k) (fun σ => opsY P V A dec own ops r (i + 1) tr (σ.put o.dst (.tup [])) k)
theorem z17h {R : Type} {P : Program} {V : Env} (hV : EnvsOK P V) {A : List Pat} {h : Host P (LT (z0b A))} {dec : Nat → List (LT (z0b A)) → Option Bool} (hd : DecOK h dec) {ro : Option Nat} {own : List Nat} {ops : Array Oper} (hcm : calm ops.toList = true) {k : List (LT (z0b A)) → TS → Option R} {r : R} :
   ∀ (l : List Oper) (i : Nat) {tr : List (LT (z0b A))} {σ : TS}, ops.toList.drop i = l → σ.wf → opsY P V A dec own ops l i tr σ k = some r →
   ∀ (c : Cx) (ds : List Nat) (a : Act) (w : World) (Q' : Exit → Act → World → Prop), RelT w c σ a → Inv h ro ds tr w c σ.flat.H →
   (∀ c' a' w' tr' σ', k tr' σ' = some r → σ'.wf → RelT w' c' σ' a' → Inv h ro ds tr' w' c' σ'.flat.H → a'.defers = a.defers → Q' .normal a' w') → wpOpsIn (Wd ro) 0 P ops Q' (List.range' i l.length) a w
 | [], i, tr, σ, hdr, hw, hh => fun _ _ _ _ _ hr hi hK => hK _ _ _ tr σ (by simpa only [opsY] using hh) hw hr hi rfl
 | o :: l, i, tr, σ, hdr, hw, hh => by
   have ho : ops[i]? = some o := by
     have : ops.toList[i]? = some o := by
       have h3 : (ops.toList.drop i)[0]? = some o := by rw [hdr]; rfl
       rw [List.getElem?_drop] at h3; simpa using h3
     simpa using this
   have hdr' : ops.toList.drop (i + 1) = l := by
     have : ops.toList.drop (i + 1) = (ops.toList.drop i).drop 1 := by rw [List.drop_drop]
     rw [this, hdr]; rfl
   simp only [opsY] at hh
   obtain ⟨g, σ', hg, hs, hh⟩ := zlr hw (fun _ _ e => e) hh
   intro c ds a w Q' hr hi hK
   have hi' : Inv h ro ds tr w c σ'.flat.H := by rw [hs.flat]; exact hi
   cases g with
   | true =>
     simp only [if_true] at hh
     have st : YStep P h ro o tr σ' (fun tr' σ2 => opsY P V A dec own ops l (i + 1) tr' σ2 k = some r) := by
       cases hy : isYl o σ' with
       | true => rw [hy, cond_true] at hh; exact z1lx hd hs.wf hh
       | false =>
         rw [hy, cond_false] at hh
         intro c ds a w K Q hr hi hK
         refine z1pu (z1e9 hcm ho) (zwn hV hs.wf hh).1 c ds a w K Q hr hi fun c' a' w' tr' σ2 hN => hK c' a' w' tr' σ2 ?_
         rw [hN.1]; exact hN.2.1
     simp only [List.length_cons, List.range'_succ, wpOpsIn, ho]
     rw [z2p hr.2.2 hg]
     simp only [if_true]
     refine st c ds a w _ Q' (hr.same hs) hi' fun c' a' w' tr' σ2 hk hw2 hr2 hi2 hdf => ?_
     exact z17h hV hd hcm l (i + 1) hdr' hw2 hk _ ds _ _ Q' hr2 hi2 fun c3 a3 w3 tr3 σ3 hk3 hw3 hr3 hi3 hd3 => hK c3 a3 w3 tr3 σ3 hk3 hw3 hr3 hi3 (hd3.trans hdf)
   | false =>
     simp only [Bool.false_eq_true, if_false] at hh
     have hwp := z7j hs.wf o.dst z12m
     simp only [List.length_cons, List.range'_succ, wpOpsIn, ho]
     rw [z2p hr.2.2 hg]
     simp only [Bool.false_eq_true, if_false]
     refine ⟨fun _ _ => trivial, z17h hV hd hcm l (i + 1) hdr' hwp hh _ ds _ _ Q' (zlp o.dst (hr.same hs) (by simp only [TV.pv, TV.pvs]; exact zoa)) ?_ fun c3 a3 w3 tr3 σ3 hk3 hw3 hr3 hi3 hd3 => hK c3 a3 w3 tr3 σ3 hk3 hw3 hr3 hi3 (hd3.trans (Act.put_defers' _ _ _))⟩
     have e1 : (σ'.put o.dst (.tup [])).flat.H = σ'.flat.H := by
       simp only [TS.flat, (put_H _ _ _).1]
     rw [e1]; exact hi'
theorem YAW.region {R : Type} {P : Program} {V : Env} (hV : EnvsOK P V) {A : List Pat} {h : Host P (LT (z0b A))} {dec : Nat → List (LT (z0b A)) → Option Bool} (hd : DecOK h dec) {ro : Option Nat} {own : List Nat} {id : Nat} {ops : Array Oper} {tr : List (LT (z0b A))} {σ : TS} {k : List (LT (z0b A)) → TS → Option R} {r : R}
   (hcm : calm ops.toList = true) (hh : opsY P V A dec own ops ops.toList 0 tr σ k = some r) : YAW P h ro (.region id ops false) tr σ (fun e tr' σ' => e = .normal ∧ k tr' σ' = some r) := by
 intro c ds a w Q' hr hw hi hds hK
 refine wpIn_mono (Q := fun e a w => e = .normal ∧ Q' e a w) (wpIn_region ?_) fun _ _ _ h => h.2
 have := z17h hV hd (ro := ro) hcm ops.toList 0 (by simp) hw hh c ds a w (fun e a w => e = .normal ∧ Q' e a w) hr hi fun c' a' w' tr' σ' hk hw' hr' hi' hdf => ⟨rfl, hK .normal c' ds a' w' σ' tr' ⟨rfl, hk⟩ hw' hr' hi' (hdf.trans hds)⟩
 rw [List.range_eq_range']
 simpa using this
def DenY (E : Type) : Type 1 := {R : Type} → List E → TS → (Exit → List E → TS → Option R) → Option R
inductive HY (E : Type) : Type 1 where
 | no
 | pl (h : HT)
 | two (a b : HY E)
 | join (X : TS → XS) (a b : HY E)
 | over (d : {R : Type} → List E → TS → (Exit → List E → TS → Option R) → Option R)
 | reg (own : List Nat)
def HY.l {E : Type} : HY E → HY E
 | .two a _ | .join _ a _ => a
 | _ => .no
def HY.r {E : Type} : HY E → HY E
 | .two _ b | .join _ _ b => b
 | _ => .no
def HY.own {E : Type} : HY E → List Nat
 | .reg own => own
 | _ => []
noncomputable def evalY (P : Program) (V : Env) (A : List Pat) (dec : Nat → List (LT (z0b A)) → Option Bool) : Code → HY (LT (z0b A)) → {R : Type} → List (LT (z0b A)) → TS → (Exit → List (LT (z0b A)) → TS → Option R) → Option R
 | .seq a b, h, _, tr, σ, k => match h with
   | .pl g => evalK P V (.seq a b) g σ fun e σ' => k e tr σ'
   | .join X ha hb => (evalY P V A dec a ha tr σ (fun e tr' σ' => (X σ).close e σ' fun x => some (tr', x))).bind fun y => (X σ).open' y.2 fun e σ' => match e with
     | .normal => evalY P V A dec b hb y.1 σ' k
     | e => k e y.1 σ'
   | .over d => d tr σ k
   | h => evalY P V A dec a h.l tr σ fun e tr' σ' => match e with
     | .normal => evalY P V A dec b h.r tr' σ' k
     | e => k e tr' σ'
 | .region id ops draw, h, _, tr, σ, k => match h with
   | .pl g => evalK P V (.region id ops draw) g σ fun e σ' => k e tr σ'
   | h => bif calm ops.toList then (match draw with
     | false => opsY P V A dec h.own ops ops.toList 0 tr σ fun tr' σ' => k .normal tr' σ'
     | true => none) else none
 | .skip, _, _, tr, σ, k => k .normal tr σ
 | .label _, _, _, tr, σ, k => k .normal tr σ
 | .ret, _, _, tr, σ, k => k .ret tr σ
 | .exit id, _, _, tr, σ, k => k (.exit id) tr σ
 | .cond x t e, h, _, tr, σ, k => match h with
   | .pl g => evalK P V (.cond x t e) g σ fun e σ' => k e tr σ'
   | h => match σ.eval x with
     | .v .bool b => cond b (evalY P V A dec t h.l tr σ k) (evalY P V A dec e h.r tr σ k)
     | _ => none
 | .block id x, h, _, tr, σ, k => match h with
   | .pl g => evalK P V (.block id x) g σ fun e σ' => k e tr σ'
   | h => evalY P V A dec x h tr σ fun e tr' σ' => match e with
     | .exit id' => bif Nat.beq id' id then k .normal tr' σ' else k (.exit id') tr' σ'
     | e => k e tr' σ'
 | .scope x, h, _, tr, σ, k => match h with
   | .pl g => evalK P V (.scope x) g σ fun e σ' => k e tr σ'
   | h => evalY P V A dec x h tr σ fun e tr' σ' => match e with
     | .goto _ => none
     | e => k e tr' σ'
 | .loop x, h, _, tr, σ, k => match h with
   | .pl g => evalK P V (.loop x) g σ fun e σ' => k e tr σ'
   | .over d => d tr σ k
   | _ => none
 | .rangeFunc g ps x y, h, _, tr, σ, k => match h with
   | .pl q => evalK P V (.rangeFunc g ps x y) q σ fun e σ' => k e tr σ'
   | .over d => d tr σ k
   | _ => none
 | _, _, _, _, _, _ => none
def trWf (A : List Pat) (tr : List (LT (z0b A))) : Prop := ∀ e, e ∈ tr → TV.wfs (embP A e)
structure SoundY (P : Program) (A : List Pat) (dec : Nat → List (LT (z0b A)) → Option Bool) (x : Code) (d : DenY (LT (z0b A))) : Prop where
 yaw : ∀ (h : Host P (LT (z0b A))) (ro : Option Nat), DecOK h dec → ∀ (R : Type) (tr : List (LT (z0b A))) (σ : TS) (k : Exit → List (LT (z0b A)) → TS → Option R) (r : R), d tr σ k = some r → YAW P h ro x tr σ (fun e tr' σ' => k e tr' σ' = some r)
 wf : ∀ (R : Type) (tr : List (LT (z0b A))) (σ : TS) (k : Exit → List (LT (z0b A)) → TS → Option R) (r : R), trWf A tr → σ.wf → d tr σ k = some r → ∃ e tr' σ', trWf A tr' ∧ σ'.wf ∧ k e tr' σ' = some r
def HOKY (P : Program) (A : List Pat) (dec : Nat → List (LT (z0b A)) → Option Bool) : Code → HY (LT (z0b A)) → Prop
 | .seq a b, h => match h with
   | .pl g => HOK P (.seq a b) g
   | .join X ha hb => (∀ σ, (X σ).OK) ∧ HOKY P A dec a ha ∧ HOKY P A dec b hb
   | .over d => SoundY P A dec (.seq a b) d
   | h => HOKY P A dec a h.l ∧ HOKY P A dec b h.r
 | .cond x t e, h => match h with
   | .pl g => HOK P (.cond x t e) g
   | h => HOKY P A dec t h.l ∧ HOKY P A dec e h.r
 | .block id x, h => match h with
   | .pl g => HOK P (.block id x) g
   | h => HOKY P A dec x h
 | .scope x, h => match h with
   | .pl g => HOK P (.scope x) g
   | h => HOKY P A dec x h
 | .loop x, h => match h with
   | .pl g => HOK P (.loop x) g
   | .over d => SoundY P A dec (.loop x) d
   | _ => True
 | .rangeFunc g ps x y, h => match h with
   | .pl q => HOK P (.rangeFunc g ps x y) q
   | .over d => SoundY P A dec (.rangeFunc g ps x y) d
   | _ => True
 | .region id ops draw, h => match h with
   | .pl g => HOK P (.region id ops draw) g
   | _ => True
 | _, _ => True
theorem YAW.plain {R : Type} {P : Program} {V : Env} (hV : EnvsOK P V) {E : Type} {h : Host P E} {ro : Option Nat} {x : Code} {g : HT} {tr : List E} {σ : TS} {k : Exit → List E → TS → Option R} {r : R} (hok : HOK P x g) (hh : (evalK P V x g σ fun e σ' => k e tr σ') = some r) :
   YAW P h ro x tr σ (fun e tr' σ' => k e tr' σ' = some r) :=
 (YAW.of (zsw hV x g hok hh)).mono fun e t σ ⟨h1, h2⟩ => by rw [h1]; exact h2
theorem z1bq {P : Program} {V : Env} (hV : EnvsOK P V) {A : List Pat} {h : Host P (LT (z0b A))} {dec : Nat → List (LT (z0b A)) → Option Bool} (hd : DecOK h dec) {ro : Option Nat} : ∀ (x : Code) (g : HY (LT (z0b A))) {R : Type} {tr : List (LT (z0b A))} {σ : TS} {k : Exit → List (LT (z0b A)) → TS → Option R} {r : R},
   HOKY P A dec x g → evalY P V A dec x g tr σ k = some r → YAW P h ro x tr σ (fun e tr' σ' => k e tr' σ' = some r) := by
 intro x
 induction x with
 | skip => intro g R tr σ k r _ hh; simp only [evalY] at hh; exact (YAW.of (TAW.skip (Q := fun e σ' => e = .normal ∧ σ' = σ) ⟨rfl, rfl⟩)).mono fun e t s ⟨h1, h2, h3⟩ => by rw [h1, h2, h3]; exact hh
 | label l => intro g R tr σ k r _ hh; simp only [evalY] at hh; exact (YAW.of (TAW.label (Q := fun e σ' => e = .normal ∧ σ' = σ) ⟨rfl, rfl⟩)).mono fun e t s ⟨h1, h2, h3⟩ => by rw [h1, h2, h3]; exact hh
 | ret => intro g R tr σ k r _ hh; simp only [evalY] at hh; exact (YAW.of (TAW.ret (Q := fun e σ' => e = .ret ∧ σ' = σ) ⟨rfl, rfl⟩)).mono fun e t s ⟨h1, h2, h3⟩ => by rw [h1, h2, h3]; exact hh
 | exit id => intro g R tr σ k r _ hh; simp only [evalY] at hh; exact (YAW.of (TAW.exit (Q := fun e σ' => e = .exit id ∧ σ' = σ) ⟨rfl, rfl⟩)).mono fun e t s ⟨h1, h2, h3⟩ => by rw [h1, h2, h3]; exact hh
 | region id ops draw =>
   intro g R tr σ k r hok hh
   have main : ∀ own, (bif calm ops.toList then (match draw with
     | false => opsY P V A dec own ops ops.toList 0 tr σ fun tr' σ' => k .normal tr' σ'
     | true => none) else none) = some r → YAW P h ro (.region id ops draw) tr σ (fun e tr' σ' => k e tr' σ' = some r) := by
     intro own hh
     cases hcm : calm ops.toList with
     | false => rw [hcm] at hh; cases hh
     | true =>
       rw [hcm, cond_true] at hh
       cases draw with
       | true => cases hh
       | false => exact (YAW.region hV hd hcm hh).mono fun e t s ⟨h1, h2⟩ => by rw [h1]; exact h2
   cases g with
   | pl g => simp only [evalY] at hh; exact YAW.plain hV hok hh
   | no => simp only [evalY] at hh; exact main _ hh
   | two a b => simp only [evalY] at hh; exact main _ hh
   | join X a b => simp only [evalY] at hh; exact main _ hh
   | over d => simp only [evalY] at hh; exact main _ hh
   | reg o => simp only [evalY] at hh; exact main _ hh
 | seq a b iha ihb =>
   intro g R tr σ k r hok hh
   have plain : ∀ ha hb : HY (LT (z0b A)), HOKY P A dec a ha → HOKY P A dec b hb → (evalY P V A dec a ha tr σ fun e tr' σ' => match e with | .normal => evalY P V A dec b hb tr' σ' k | e => k e tr' σ') = some r → YAW P h ro (.seq a b) tr σ (fun e tr' σ' => k e tr' σ' = some r) := by
     intro ha hb h1 h2 hh
     refine YAW.seq ((iha ha h1 hh).mono fun e t σ' he => ?_)
     cases e <;> first | exact he | skip
     exact ihb hb h2 he
   cases g with
   | pl g => simp only [evalY] at hh; exact YAW.plain hV hok hh
   | no => simp only [evalY] at hh; exact plain _ _ hok.1 hok.2 hh
   | two ha hb => simp only [evalY] at hh; exact plain _ _ hok.1 hok.2 hh
   | reg o => simp only [evalY] at hh; exact plain _ _ hok.1 hok.2 hh
   | over d => simp only [evalY] at hh; exact hok.yaw h ro hd R tr σ k r hh
   | join X ha hb =>
     simp only [evalY] at hh
     obtain ⟨hX, h1, h2⟩ := hok
     rw [Option.bind_eq_some_iff] at hh
     obtain ⟨y, hx, hh⟩ := hh
     rw [(hX σ).open'] at hh
     have h3 := iha ha h1 hx
     refine YAW.seq ?_
     intro c ds a' w Q' hr hw hi hds hK
     refine h3 c ds a' w Q' hr hw hi hds fun e c' ds' a2 w' σ' tr' he hw' hr' hi' hdf => ?_
     obtain ⟨x', g1, g2, g3⟩ := (hX σ).close _ e σ' _ y hw' he
     cases g1
     obtain ⟨c2, hr2, hx2⟩ := g3.2 w' c' a2 hr'
     refine hK e c2 ds' a2 w' ((X σ).at' x').2 tr' ?_ g3.1 hr2 (hi'.step (hx2 _ _ (ExtP.refl _ _ _)) hr2.2.1) hdf
     rw [g2] at hh
     cases e <;> first | exact hh | skip
     exact ihb hb h2 hh
 | cond x t e iht ihe =>
   intro g R tr σ k r hok hh
   have main : ∀ ha hb : HY (LT (z0b A)), HOKY P A dec t ha → HOKY P A dec e hb → (match σ.eval x with | .v .bool b => cond b (evalY P V A dec t ha tr σ k) (evalY P V A dec e hb tr σ k) | _ => none) = some r → YAW P h ro (.cond x t e) tr σ (fun e tr' σ' => k e tr' σ' = some r) := by
     intro ha hb h1 h2 hh
     split at hh
     · rename_i b hbv
       refine YAW.cond hbv ?_
       cases b with
       | true => exact iht _ h1 hh
       | false => exact ihe _ h2 hh
     · cases hh
   cases g with
   | pl g => simp only [evalY] at hh; exact YAW.plain hV hok hh
   | no => simp only [evalY] at hh; exact main _ _ hok.1 hok.2 hh
   | two ha hb => simp only [evalY] at hh; exact main _ _ hok.1 hok.2 hh
   | reg o => simp only [evalY] at hh; exact main _ _ hok.1 hok.2 hh
   | over d => simp only [evalY] at hh; exact main _ _ hok.1 hok.2 hh
   | join X ha hb => simp only [evalY] at hh; exact main _ _ hok.1 hok.2 hh
 | block id x ih =>
   intro g R tr σ k r hok hh
   have main : ∀ g, HOKY P A dec x g → (evalY P V A dec x g tr σ fun e tr' σ' => match e with
     | .exit id' => bif Nat.beq id' id then k .normal tr' σ' else k (.exit id') tr' σ'
     | e => k e tr' σ') = some r → YAW P h ro (.block id x) tr σ (fun e tr' σ' => k e tr' σ' = some r) := by
     intro g hok hh
     refine YAW.block ((ih g hok hh).mono fun e t σ' he => ?_)
     cases e with
     | exit id' =>
       simp only [z1gn]
       simp only at he
       cases hb : Nat.beq id' id with
       | true => rw [hb] at he; exact he
       | false => rw [hb] at he; exact he
     | _ => exact he
   cases g with
   | pl g => simp only [evalY] at hh; exact YAW.plain hV hok hh
   | no => simp only [evalY] at hh; exact main _ hok hh
   | two ha hb => simp only [evalY] at hh; exact main _ hok hh
   | reg o => simp only [evalY] at hh; exact main _ hok hh
   | over d => simp only [evalY] at hh; exact main _ hok hh
   | join X ha hb => simp only [evalY] at hh; exact main _ hok hh
 | scope x ih =>
   intro g R tr σ k r hok hh
   have main : ∀ g, HOKY P A dec x g → (evalY P V A dec x g tr σ fun e tr' σ' => match e with
     | .goto _ => none
     | e => k e tr' σ') = some r → YAW P h ro (.scope x) tr σ (fun e tr' σ' => k e tr' σ' = some r) := by
     intro g hok hh
     refine YAW.scope ((ih g hok hh).mono fun e t σ' he => ?_)
     cases e <;> first | exact he | cases he
   cases g with
   | pl g => simp only [evalY] at hh; exact YAW.plain hV hok hh
   | no => simp only [evalY] at hh; exact main _ hok hh
   | two ha hb => simp only [evalY] at hh; exact main _ hok hh
   | reg o => simp only [evalY] at hh; exact main _ hok hh
   | over d => simp only [evalY] at hh; exact main _ hok hh
   | join X ha hb => simp only [evalY] at hh; exact main _ hok hh
 | loop x ih =>
   intro g R tr σ k r hok hh
   cases g with
   | pl g => simp only [evalY] at hh; exact YAW.plain hV hok hh
   | over d => simp only [evalY] at hh; exact hok.yaw h ro hd R tr σ k r hh
   | _ => simp [evalY] at hh
 | rangeFunc q ps x y _ _ =>
   intro g R tr σ k r hok hh
   cases g with
   | pl g => simp only [evalY] at hh; exact YAW.plain hV hok hh
   | over d => simp only [evalY] at hh; exact hok.yaw h ro hd R tr σ k r hh
   | _ => simp [evalY] at hh
 | _ => intro g R tr σ k r hok hh; simp [evalY] at hh
theorem z1fb {R : Type} {A : List Pat} {dec : Nat → List (LT (z0b A)) → Option Bool} {o : Oper} {tr : List (LT (z0b A))} {σ : TS} {k : List (LT (z0b A)) → TS → Option R} {r : R} (ht : trWf A tr) (hw : σ.wf)
   (hh : z10y A dec o tr σ k = some r) : ∃ tr' σ', trWf A tr' ∧ σ'.wf ∧ k tr' σ' = some r := by
 unfold z10y at hh
 split at hh
 · rename_i fo xs ats ho
   split at hh
   · rename_i l hfo
     obtain ⟨x, h1, h2⟩ := z1ac (z3u.2 fun t ht => by
       simp only [List.mem_map] at ht
       obtain ⟨y, _, rfl⟩ := ht
       exact z0u hw y) hh
     rw [Option.bind_eq_some_iff] at h1
     obtain ⟨b, hb, h1⟩ := h1
     refine ⟨_, _, fun e he => ?_, z7j hw _ (by simp only [TV.wf, wfU]), h1⟩
     rcases List.mem_append.1 he with he | he
     · exact ht e he
     · rw [List.mem_singleton.1 he]; exact h2.wf
   · cases hh
 · cases hh
theorem z1pp {R : Type} {A : List Pat} {dec : Nat → List (LT (z0b A)) → Option Bool} {own : List Nat} {i : Nat} {o : Oper} {tr : List (LT (z0b A))} {σ : TS} {k : List (LT (z0b A)) → TS → Option R} {r : R} (ht : trWf A tr) (hw : σ.wf)
   (hh : z15x A dec own i o tr σ k = some r) : ∃ tr' σ', trWf A tr' ∧ σ'.wf ∧ k tr' σ' = some r := by
 unfold z15x at hh
 split at hh
 · exact z1fb ht hw hh
 · rename_i b bs _
   cases hc : zci σ.p (keepR (List.length σ.H) σ.p (b :: bs) []) with
   | false => rw [hc] at hh; cases hh
   | true => rw [hc] at hh; exact z1fb ht (z18m hw) hh
theorem z18j {R : Type} {P : Program} {V : Env} (hV : EnvsOK P V) {A : List Pat} {dec : Nat → List (LT (z0b A)) → Option Bool} {own : List Nat} {ops : Array Oper} {k : List (LT (z0b A)) → TS → Option R} {r : R} :
   ∀ (l : List Oper) (i : Nat) {tr : List (LT (z0b A))} {σ : TS}, trWf A tr → σ.wf → opsY P V A dec own ops l i tr σ k = some r → ∃ tr' σ', trWf A tr' ∧ σ'.wf ∧ k tr' σ' = some r
 | [], i, tr, σ, ht, hw, hh => ⟨tr, σ, ht, hw, by simpa only [opsY] using hh⟩
 | o :: l, i, tr, σ, ht, hw, hh => by
   simp only [opsY] at hh
   obtain ⟨g, σ', hg, hs, hh⟩ := zlr hw (fun _ _ e => e) hh
   cases g with
   | true =>
     simp only [if_true] at hh
     cases hy : isYl o σ' with
     | true =>
       rw [hy, cond_true] at hh
       obtain ⟨tr', σ2, h1, h2, h3⟩ := z1pp ht hs.wf hh
       exact z18j hV l _ h1 h2 h3
     | false =>
       rw [hy, cond_false] at hh
       obtain ⟨σ2, h1, h2⟩ := (zwn hV hs.wf hh).2
       exact z18j hV l _ ht h1 h2
   | false =>
     simp only [Bool.false_eq_true, if_false] at hh
     exact z18j hV l _ ht (z7j hs.wf o.dst z12m) hh
theorem z1hu {P : Program} {V : Env} (hV : EnvsOK P V) {A : List Pat} {dec : Nat → List (LT (z0b A)) → Option Bool} : ∀ (x : Code) (g : HY (LT (z0b A))) {R : Type} {tr : List (LT (z0b A))} {σ : TS} {k : Exit → List (LT (z0b A)) → TS → Option R} {r : R},
   HOKY P A dec x g → trWf A tr → σ.wf → evalY P V A dec x g tr σ k = some r → ∃ e tr' σ', trWf A tr' ∧ σ'.wf ∧ k e tr' σ' = some r := by
 intro x
 have pln : ∀ (x : Code) (g : HT) {R : Type} {tr : List (LT (z0b A))} {σ : TS} {k : Exit → List (LT (z0b A)) → TS → Option R} {r : R}, HOK P x g → trWf A tr → σ.wf → (evalK P V x g σ fun e σ' => k e tr σ') = some r → ∃ e tr' σ', trWf A tr' ∧ σ'.wf ∧ k e tr' σ' = some r := by
   intro x g R tr σ k r hok ht hw hh
   obtain ⟨e, σ', h1, h2⟩ := zxb hV x g hok hw hh
   exact ⟨e, tr, σ', ht, h1, h2⟩
 induction x with
 | skip => intro g R tr σ k r _ ht hw hh; simp only [evalY] at hh; exact ⟨_, tr, σ, ht, hw, hh⟩
 | label l => intro g R tr σ k r _ ht hw hh; simp only [evalY] at hh; exact ⟨_, tr, σ, ht, hw, hh⟩
 | ret => intro g R tr σ k r _ ht hw hh; simp only [evalY] at hh; exact ⟨_, tr, σ, ht, hw, hh⟩
 | exit id => intro g R tr σ k r _ ht hw hh; simp only [evalY] at hh; exact ⟨_, tr, σ, ht, hw, hh⟩
 | region id ops draw =>
   intro g R tr σ k r hok ht hw hh
   have main : ∀ own, (bif calm ops.toList then (match draw with
     | false => opsY P V A dec own ops ops.toList 0 tr σ fun tr' σ' => k .normal tr' σ'
     | true => none) else none) = some r → ∃ e tr' σ', trWf A tr' ∧ σ'.wf ∧ k e tr' σ' = some r := by
     intro own hh
     cases hcm : calm ops.toList with
     | false => rw [hcm] at hh; cases hh
     | true =>
       rw [hcm, cond_true] at hh
       cases draw with
       | true => cases hh
       | false =>
         obtain ⟨tr', σ', h1, h2, h3⟩ := z18j hV _ _ ht hw hh
         exact ⟨_, tr', σ', h1, h2, h3⟩
   cases g with
   | pl g => simp only [evalY] at hh; exact pln _ _ hok ht hw hh
   | no => simp only [evalY] at hh; exact main _ hh
   | two a b => simp only [evalY] at hh; exact main _ hh
   | join X a b => simp only [evalY] at hh; exact main _ hh
   | over d => simp only [evalY] at hh; exact main _ hh
   | reg o => simp only [evalY] at hh; exact main _ hh
 | seq a b iha ihb =>
   intro g R tr σ k r hok ht hw hh
   have plain : ∀ ha hb : HY (LT (z0b A)), HOKY P A dec a ha → HOKY P A dec b hb → (evalY P V A dec a ha tr σ fun e tr' σ' => match e with | .normal => evalY P V A dec b hb tr' σ' k | e => k e tr' σ') = some r → ∃ e tr' σ', trWf A tr' ∧ σ'.wf ∧ k e tr' σ' = some r := by
     intro ha hb h1 h2 hh
     obtain ⟨e, tr', σ', k1, k2, he⟩ := iha ha h1 ht hw hh
     cases e <;> first | exact ⟨_, tr', σ', k1, k2, he⟩ | skip
     exact ihb hb h2 k1 k2 he
   cases g with
   | pl g => simp only [evalY] at hh; exact pln _ _ hok ht hw hh
   | no => simp only [evalY] at hh; exact plain _ _ hok.1 hok.2 hh
   | two ha hb => simp only [evalY] at hh; exact plain _ _ hok.1 hok.2 hh
   | reg o => simp only [evalY] at hh; exact plain _ _ hok.1 hok.2 hh
   | over d => simp only [evalY] at hh; exact hok.wf R tr σ k r ht hw hh
   | join X ha hb =>
     simp only [evalY] at hh
     obtain ⟨hX, h1, h2⟩ := hok
     rw [Option.bind_eq_some_iff] at hh
     obtain ⟨y, hx, hh⟩ := hh
     rw [(hX σ).open'] at hh
     obtain ⟨e, tr', σ', k1, k2, he⟩ := iha ha h1 ht hw hx
     obtain ⟨x', g1, g2, g3⟩ := (hX σ).close _ e σ' _ y k2 he
     cases g1
     rw [g2] at hh
     cases e <;> first | exact ⟨_, _, _, k1, g3.1, hh⟩ | skip
     exact ihb hb h2 k1 g3.1 hh
 | cond x t e iht ihe =>
   intro g R tr σ k r hok ht hw hh
   have main : ∀ ha hb : HY (LT (z0b A)), HOKY P A dec t ha → HOKY P A dec e hb → (match σ.eval x with | .v .bool b => cond b (evalY P V A dec t ha tr σ k) (evalY P V A dec e hb tr σ k) | _ => none) = some r → ∃ e tr' σ', trWf A tr' ∧ σ'.wf ∧ k e tr' σ' = some r := by
     intro ha hb h1 h2 hh
     split at hh
     · rename_i b hbv
       cases b with
       | true => exact iht _ h1 ht hw hh
       | false => exact ihe _ h2 ht hw hh
     · cases hh
   cases g with
   | pl g => simp only [evalY] at hh; exact pln _ _ hok ht hw hh
   | no => simp only [evalY] at hh; exact main _ _ hok.1 hok.2 hh
   | two ha hb => simp only [evalY] at hh; exact main _ _ hok.1 hok.2 hh
   | reg o => simp only [evalY] at hh; exact main _ _ hok.1 hok.2 hh
   | over d => simp only [evalY] at hh; exact main _ _ hok.1 hok.2 hh
   | join X ha hb => simp only [evalY] at hh; exact main _ _ hok.1 hok.2 hh
 | block id x ih =>
   intro g R tr σ k r hok ht hw hh
   have main : ∀ g, HOKY P A dec x g → (evalY P V A dec x g tr σ fun e tr' σ' => match e with
     | .exit id' => bif Nat.beq id' id then k .normal tr' σ' else k (.exit id') tr' σ'
     | e => k e tr' σ') = some r → ∃ e tr' σ', trWf A tr' ∧ σ'.wf ∧ k e tr' σ' = some r := by
     intro g hok hh
     obtain ⟨e, tr', σ', k1, k2, he⟩ := ih g hok ht hw hh
     cases e with
     | exit id' =>
       simp only at he
       cases hb : Nat.beq id' id with
       | true => rw [hb] at he; exact ⟨_, tr', σ', k1, k2, he⟩
       | false => rw [hb] at he; exact ⟨_, tr', σ', k1, k2, he⟩
     | _ => exact ⟨_, tr', σ', k1, k2, he⟩
   cases g with
   | pl g => simp only [evalY] at hh; exact pln _ _ hok ht hw hh
   | no => simp only [evalY] at hh; exact main _ hok hh
   | two ha hb => simp only [evalY] at hh; exact main _ hok hh
   | reg o => simp only [evalY] at hh; exact main _ hok hh
   | over d => simp only [evalY] at hh; exact main _ hok hh
   | join X ha hb => simp only [evalY] at hh; exact main _ hok hh
 | scope x ih =>
   intro g R tr σ k r hok ht hw hh
   have main : ∀ g, HOKY P A dec x g → (evalY P V A dec x g tr σ fun e tr' σ' => match e with
     | .goto _ => none
     | e => k e tr' σ') = some r → ∃ e tr' σ', trWf A tr' ∧ σ'.wf ∧ k e tr' σ' = some r := by
     intro g hok hh
     obtain ⟨e, tr', σ', k1, k2, he⟩ := ih g hok ht hw hh
     cases e <;> first | exact ⟨_, tr', σ', k1, k2, he⟩ | cases he
   cases g with
   | pl g => simp only [evalY] at hh; exact pln _ _ hok ht hw hh
   | no => simp only [evalY] at hh; exact main _ hok hh
   | two ha hb => simp only [evalY] at hh; exact main _ hok hh
   | reg o => simp only [evalY] at hh; exact main _ hok hh
   | over d => simp only [evalY] at hh; exact main _ hok hh
   | join X ha hb => simp only [evalY] at hh; exact main _ hok hh
 | loop x ih =>
   intro g R tr σ k r hok ht hw hh
   cases g with
   | pl g => simp only [evalY] at hh; exact pln _ _ hok ht hw hh
   | over d => simp only [evalY] at hh; exact hok.wf R tr σ k r ht hw hh
   | _ => simp [evalY] at hh
 | rangeFunc q ps x y _ _ =>
   intro g R tr σ k r hok ht hw hh
   cases g with
   | pl g => simp only [evalY] at hh; exact pln _ _ hok ht hw hh
   | over d => simp only [evalY] at hh; exact hok.wf R tr σ k r ht hw hh
   | _ => simp [evalY] at hh
 | _ => intro g R tr σ k r hok ht hw hh; simp [evalY] at hh
def z12o {E : Type} (S : XE) (X : XS) (f : List E × S.T → Option (List E × X.T)) : {R : Type} → List E → TS → (Exit → List E → TS → Option R) → Option R :=
 fun tr σ k => S.close σ fun s => (f (tr, s)).bind fun y => X.open' y.2 fun e σ' => k e y.1 σ'
noncomputable def z1ss (P : Program) (V : Env) (A : List Pat) (dec : Nat → List (LT (z0b A)) → Option Bool) (x : Code) (g : HY (LT (z0b A))) (S : XE) (X : XS) (s : List (LT (z0b A)) × S.T) : Option ((List (LT (z0b A)) × S.T) ⊕ (List (LT (z0b A)) × X.T)) :=
 evalY P V A dec x g s.1 (S.st s.2) fun e tr σ' => match e with
   | .normal => S.close σ' fun s' => some (.inl (tr, s'))
   | e => X.close e σ' fun y => some (.inr (tr, y))
theorem z1j4 {P : Program} {V : Env} (hV : EnvsOK P V) {A : List Pat} {dec : Nat → List (LT (z0b A)) → Option Bool} {x : Code} {g : HY (LT (z0b A))} {S : XE} {X : XS} (hok : HOKY P A dec x g) (hS : S.OK) (hX : X.OK)
   (f : List (LT (z0b A)) × S.T → Option ((List (LT (z0b A)) × S.T) ⊕ (List (LT (z0b A)) × X.T))) (hf : ∀ s, z1ss P V A dec x g S X s = f s) : SoundY P A dec (.loop x) (z12o S X (loopC f)) := by
 refine ⟨?yaw, ?wf⟩
 case wf =>
   intro R tr σ k r ht hw hh
   simp only [z12o] at hh
   obtain ⟨s, h1, h2⟩ := hS R σ _ r hw hh
   rw [Option.bind_eq_some_iff] at h1
   obtain ⟨xx, h3, h4⟩ := h1
   obtain ⟨n, hn⟩ := zkj.1 h3
   have key : ∀ (n : Nat) (s : List (LT (z0b A)) × S.T) (xx : List (LT (z0b A)) × X.T), trWf A s.1 → (S.st s.2).wf → iter f n s = some xx → trWf A xx.1 ∧ (X.at' xx.2).2.wf := by
     intro n
     induction n with
     | zero => intro s xx _ _ h; cases h
     | succ n ih =>
       intro s xx hts hws hi
       simp only [iter] at hi
       rw [Option.bind_eq_some_iff] at hi
       obtain ⟨y, hy, hi⟩ := hi
       rw [← hf] at hy
       obtain ⟨e, tr', σ', ht', hw', he⟩ := z1hu hV x g hok hts hws hy
       have fin : (X.close e σ' fun x => some (Sum.inr (tr', x))) = some y → trWf A xx.1 ∧ (X.at' xx.2).2.wf := fun hc => by
         obtain ⟨x', g1, g2, g3⟩ := hX.close _ e σ' _ y hw' hc
         cases g1
         cases hi
         exact ⟨ht', g3.1⟩
       cases e with
       | normal =>
         obtain ⟨s', g1, g2⟩ := hS _ σ' _ y hw' he
         cases g1
         exact ih (tr', s') xx ht' g2.1 hi
       | exit id => exact fin he
       | goto l => exact fin he
       | ret => exact fin he
       | panic ch => exact fin he
       | outgrown => exact fin he
   rw [hX.open'] at h4
   obtain ⟨k1, k2⟩ := key n (tr, s) xx ht h2.1 hn
   exact ⟨_, _, _, k1, k2, h4⟩
 intro h ro hd R tr σ k r hh
 simp only [z12o] at hh
 have key : ∀ (n : Nat) (s : List (LT (z0b A)) × S.T) (xx : List (LT (z0b A)) × X.T), iter f n s = some xx → YLoop P h ro x s.1 (S.st s.2) (fun e tr' σ' => k e tr' σ' = some r) ∨ X.open' xx.2 (fun e σ' => k e xx.1 σ') ≠ some r := by
   intro n
   induction n with
   | zero => intro s xx h; cases h
   | succ n ih =>
     intro s xx hi
     by_cases hop : X.open' xx.2 (fun e σ' => k e xx.1 σ') = some r
     · refine .inl (YLoop.step ?_)
       simp only [iter] at hi
       rw [Option.bind_eq_some_iff] at hi
       obtain ⟨y, hy, hi⟩ := hi
       rw [← hf] at hy
       have h1 := z1bq (ro := ro) hV hd x g hok hy
       intro c ds a w Q' hr hw hin hds hK
       refine h1 c ds a w Q' hr hw hin hds fun e c' ds' a2 w' σ' tr' he hw' hr' hi' hdf => ?_
       have fin : ∀ e, e ≠ .normal → (X.close e σ' fun x => some (Sum.inr (tr', x))) = some y → Q' e a2 w' := by
         intro e hne hc
         obtain ⟨x', g1, g2, g3⟩ := hX.close _ e σ' _ y hw' hc
         cases g1
         cases hi
         obtain ⟨c2, hr2, hx2⟩ := g3.2 w' c' a2 hr'
         refine hK e c2 ds' a2 w' (X.at' x').2 tr' ?_ g3.1 hr2 (hi'.step (hx2 _ _ (ExtP.refl _ _ _)) hr2.2.1) hdf
         rw [hX.open', g2] at hop
         cases e <;> first | exact hop | exact absurd rfl hne
       cases e with
       | normal =>
         obtain ⟨s', g1, g2⟩ := hS _ σ' _ y hw' he
         cases g1
         refine hK .normal c' ds' a2 w' σ' tr' ?_ hw' hr' hi' hdf
         rcases ih (tr', s') xx hi with h2 | h2
         · exact YLoop.wk g2 h2
         · exact absurd hop h2
       | exit id => exact fin _ (by simp) he
       | goto l => exact fin _ (by simp) he
       | ret => exact fin _ (by simp) he
       | panic ch => exact fin _ (by simp) he
       | outgrown => exact fin _ (by simp) he
     · exact .inr hop
 intro c ds a w Q' hr hw hi hds hK
 obtain ⟨s, h1, h2⟩ := hS R σ _ r hw hh
 rw [Option.bind_eq_some_iff] at h1
 obtain ⟨xx, h3, h4⟩ := h1
 obtain ⟨n, hn⟩ := zkj.1 h3
 rcases key n (tr, s) xx hn with h5 | h5
 · exact YAW.wk h2 (YLoop.loop h5) c ds a w Q' hr hw hi hds hK
 · exact absurd h4 h5
inductive OblY (E : Type) : Type 1 where
 | den (x : Code) (d : {R : Type} → List E → TS → (Exit → List E → TS → Option R) → Option R)
 | xs (X : TS → XS)
 | pl (o : Obl)
def OblY.OK (P : Program) {A : List Pat} (dec : Nat → List (LT (z0b A)) → Option Bool) : OblY (LT (z0b A)) → Prop
 | .den x d => SoundY P A dec x d
 | .xs X => ∀ σ, (X σ).OK
 | .pl o => o.OK P
def oblY {E : Type} : Code → HY E → List (OblY E)
 | .seq a b, h => match h with
   | .pl g => (obl (.seq a b) g).map .pl
   | .join X ha hb => .xs X :: (oblY a ha ++ oblY b hb)
   | .over d => [.den (.seq a b) d]
   | .no => []
   | .two ha hb => oblY a ha ++ oblY b hb
   | .reg _ => []
 | .cond x t e, h => match h with
   | .pl g => (obl (.cond x t e) g).map .pl
   | .no => []
   | h => oblY t h.l ++ oblY e h.r
 | .block id x, h => match h with
   | .pl g => (obl (.block id x) g).map .pl
   | .no => []
   | h => oblY x h
 | .scope x, h => match h with
   | .pl g => (obl (.scope x) g).map .pl
   | .no => []
   | h => oblY x h
 | .loop x, h => match h with
   | .pl g => (obl (.loop x) g).map .pl
   | .over d => [.den (.loop x) d]
   | _ => []
 | .rangeFunc q ps x y, h => match h with
   | .pl g => (obl (.rangeFunc q ps x y) g).map .pl
   | .over d => [.den (.rangeFunc q ps x y) d]
   | _ => []
 | .region id ops draw, h => match h with
   | .pl g => (obl (.region id ops draw) g).map .pl
   | _ => []
 | _, _ => []
def z12c (P : Program) {A : List Pat} (dec : Nat → List (LT (z0b A)) → Option Bool) : List (OblY (LT (z0b A))) → Prop
 | [] => True
 | o :: l => o.OK P dec ∧ z12c P dec l
theorem z1a0 {P : Program} {A : List Pat} {dec : Nat → List (LT (z0b A)) → Option Bool} : ∀ {l : List (OblY (LT (z0b A)))}, z12c P dec l ↔ ∀ o, o ∈ l → o.OK P dec
 | [] => by simp [z12c]
 | o :: l => by simp [z12c, z1a0 (l := l)]
theorem zcd (P : Program) (A : List Pat) (dec : Nat → List (LT (z0b A)) → Option Bool) : ∀ x : Code, HOKY P A dec x .no
 | .seq a b => ⟨zcd P A dec a, zcd P A dec b⟩
 | .cond _ t e => ⟨zcd P A dec t, zcd P A dec e⟩
 | .block _ x => zcd P A dec x
 | .scope x => zcd P A dec x
 | .loop _ => trivial
 | .region _ _ _ | .skip | .label _ | .ret | .exit _ | .rangeFunc _ _ _ _ | .goto _ | .refuse _ => trivial
theorem z1ph {P : Program} {A : List Pat} {dec : Nat → List (LT (z0b A)) → Option Bool} : ∀ (x : Code) (h : HY (LT (z0b A))), (∀ o, o ∈ oblY x h → o.OK P dec) → HOKY P A dec x h := by
 have pl : ∀ (x : Code) (g : HT), (∀ o, o ∈ (obl x g).map (OblY.pl (E := LT (z0b A))) → o.OK P dec) → HOK P x g := fun x g ho => z1k7 x g fun o h => ho (.pl o) (List.mem_map_of_mem h)
 intro x
 induction x with
 | seq a b iha ihb =>
   intro h ho
   cases h with
   | pl g => exact pl _ _ ho
   | no => exact ⟨zcd P A dec a, zcd P A dec b⟩
   | two ha hb => exact ⟨iha _ fun o h => ho o (List.mem_append_left _ h), ihb _ fun o h => ho o (List.mem_append_right _ h)⟩
   | reg _ => exact ⟨zcd P A dec a, zcd P A dec b⟩
   | over d => exact ho _ (List.mem_singleton.2 rfl)
   | join X ha hb => exact ⟨ho (.xs X) (List.mem_cons_self ..), iha _ fun o h => ho o (List.mem_cons_of_mem _ (List.mem_append_left _ h)), ihb _ fun o h => ho o (List.mem_cons_of_mem _ (List.mem_append_right _ h))⟩
 | cond x t e iht ihe =>
   intro h ho
   cases h with
   | pl g => exact pl _ _ ho
   | no => exact ⟨zcd P A dec t, zcd P A dec e⟩
   | _ => exact ⟨iht _ fun o h => ho o (List.mem_append_left _ h), ihe _ fun o h => ho o (List.mem_append_right _ h)⟩
 | block id x ih =>
   intro h ho
   cases h with
   | pl g => exact pl _ _ ho
   | no => exact zcd P A dec x
   | _ => exact ih _ ho
 | scope x ih =>
   intro h ho
   cases h with
   | pl g => exact pl _ _ ho
   | no => exact zcd P A dec x
   | _ => exact ih _ ho
 | loop x ih =>
   intro h ho
   cases h with
   | pl g => exact pl _ _ ho
   | over d => exact ho _ (List.mem_singleton.2 rfl)
   | _ => trivial
 | rangeFunc q ps x y _ _ =>
   intro h ho
   cases h with
   | pl g => exact pl _ _ ho
   | over d => exact ho _ (List.mem_singleton.2 rfl)
   | _ => trivial
 | region id ops draw =>
   intro h ho
   cases h with
   | pl g => exact pl _ _ ho
   | _ => trivial
 | _ => intro h _; trivial
theorem z1jt {P : Program} {A : List Pat} {dec : Nat → List (LT (z0b A)) → Option Bool} {x : Code} {h : HY (LT (z0b A))} (l : List (OblY (LT (z0b A)))) (hl : oblY x h = l) (ho : z12c P dec l) : HOKY P A dec x h := z1ph x h (by rw [hl]; exact z1a0.1 ho)
def capsP (C : List Pat) (x : LT (z0b C)) : List TV := (fillL (fun _ => 0) C (z2n (z0b C) x)).1
def initY (fn : Func) (l : Nat) (caps : List TV) : TS := ⟨List.length (TV.yl l :: caps) + (fn.ntmps - List.length (TV.yl l :: caps)), zkz (.yl l :: caps) 0, [], 0⟩
noncomputable def fnY (P : Program) (V : Env) (fn : Func) (A C : List Pat) (dec : Nat → List (LT (z0b A)) → Option Bool) (g : HY (LT (z0b A))) (l : Nat) (x : LT (z0b C)) : Option (List (LT (z0b A))) :=
 match fn.body with
 | some c => evalY P V A dec c g [] (initY fn l (capsP C x)) fun e tr σ => match e with
   | .normal | .ret => some tr
   | _ => none
 | none => none
def onY {E : Type} (l : Nat) (dec : List E → Option Bool) : Nat → List E → Option Bool := fun l' tr => if l' = l then dec tr else none
structure SeqOK (P : Program) (f : FuncId) (A C : List Pat) (fn : (List (LT (z0b A)) → Option Bool) → LT (z0b C) → Option (List (LT (z0b A)))) : Prop where
 can : zfh P f = true
 wf : ∀ dec (x : LT (z0b C)) (tr : List (LT (z0b A))), fn dec x = some tr → TV.wfs (capsP C x) → trWf A tr
 calls : ∀ (h : Host P (LT (z0b A))) (x : LT (z0b C)) (tr : List (LT (z0b A))), h.emb = embP A → fn h.dec x = some tr → TV.wfs (capsP C x) → ∀ w cb Hb ci (vs : Array Value), Two h.K0 h.X w cb Hb ci [] → ci.pn = 0 → h.J [] w cb Hb → h.n0 ≤ w.heap.size → vs.size = (capsP C x).length →
   VRs w ci ((capsP C x).map TV.pv) (fun i => vs[i]?) → Calls P f (#[.func (.yield h.l) #[] #[]] ++ vs) w fun e w' => ∃ v, e = .returned v ∧ ∃ cb' Hb' ci' Hi', Two h.K0 h.X w' cb' Hb' ci' Hi' ∧ h.J tr w' cb' Hb'
theorem z1jq {P : Program} {E : Type} {h : Host P E} {func : Func} {tmps : Array Value} {tr : List E} {cb ci : Cx} {Hb Hi : List AObj} (hres : func.results = #[]) : ∀ {l : List Nat} {w : World}, l.Nodup → (∀ D, D ∈ l → h.n0 ≤ D ∧ gb ≤ D ∧ w.heap[D]? = some (.deferred (some [])) ∧ some D ∉ ci.m ∧ some D ∉ cb.m ∧ ¬ h.X D) → h.n0 ≤ w.heap.size →
   Two h.K0 h.X w cb Hb ci Hi → h.J tr w cb Hb → LeavesInM (Wd none) 0 P func tmps (fun e w' => ∃ v, e = .returned v ∧ ∃ cb' Hb' ci' Hi', Two h.K0 h.X w' cb' Hb' ci' Hi' ∧ h.J tr w' cb' Hb') (l.map mark) .returning w
 | [], w, _, _, _, two, hJ => ⟨.tuple #[], by simp [results, hres, Sem.run_bind, Sem.run_pure, Result.andThen], _, rfl, cb, Hb, ci, Hi, two, hJ⟩
 | D :: l, w, hn, hl, h0, two, hJ => by
   obtain ⟨g1, gg, g2, g3, g4, g5⟩ := hl D (by simp)
   obtain ⟨s1, k1⟩ := noncell (o := .deferred (some [])) (.deferred none) two.b (zoo g2) g4 gg
   obtain ⟨_, k2⟩ := noncell (o := .deferred (some [])) (.deferred none) two.i (zoo g2) g3 gg
   have two' : Two h.K0 h.X (w.putObj D (.deferred none)) cb Hb ci Hi := ⟨k1, k2, two.bok, two.iok, two.mono, two.apart, two.xb, two.xi, fun k hk => by simpa using two.xlt k hk, two.xgb⟩
   have hJ' : h.J tr (w.putObj D (.deferred none)) cb Hb := by
     refine h.stay tr w cb Hb _ cb.ok hJ h0 ⟨rfl, rfl, rfl, by simp, fun k hk hm => World.putObj_heap_other fun e => hm ⟨h.new k (by rw [e]; exact g1), by rw [e]; exact g4, by rw [e]; exact g5⟩⟩ (fun k vs e fr hk => ⟨vs, fr, (World.putObj_heap_other fun e => ?_).trans hk, rfl⟩) s1 k1
     rw [e, g2] at hk; cases hk
   refine ⟨by simp, .inl ⟨D, _, rfl, run_takeDeferred g2, z1jq hres (List.nodup_cons.1 hn).2 (fun E hE => ?_) (by simpa using h0) two' hJ'⟩⟩
   obtain ⟨k1, kg, k2, k3⟩ := hl E (by simp [hE])
   exact ⟨k1, kg, (World.putObj_heap_other (fun e : E = D => (List.nodup_cons.1 hn).1 (by rw [← e]; exact hE))).trans k2, k3⟩
theorem z1sp {P : Program} {V : Env} (hV : EnvsOK P V) {f : FuncId} {func : Func} {A C : List Pat} {g : (Nat → List (LT (z0b A)) → Option Bool) → HY (LT (z0b A))} {F : (Nat → List (LT (z0b A)) → Option Bool) → Nat → LT (z0b C) → Option (List (LT (z0b A)))} {G : (List (LT (z0b A)) → Option Bool) → LT (z0b C) → Option (List (LT (z0b A)))}
   (hfun : P.funcs[f]? = some func) (hres : func.results = #[]) (hh : ∀ dec, HOKY P A dec (bodyC func) (g dec)) (hc : zfh P f = true) (hF : ∀ dec l x, fnY P V func A C dec (g dec) l x = F dec l x) (hG : ∀ dec l x tr, G dec x = some tr → F (onY l dec) l x = some tr) : SeqOK P f A C G := by
 refine ⟨hc, fun dec1 x tr hfn hwx => ?_, fun h x tr hemb hfn hwx w cb Hb ci vs two hpn hJ h0 hsz hv => ?_⟩
 · have hev := hF (onY 0 dec1) 0 x
   rw [hG dec1 0 x tr hfn] at hev
   unfold fnY at hev
   split at hev
   · rename_i c hb
     have hok : HOKY P A (onY 0 dec1) c (g (onY 0 dec1)) := by have := hh (onY 0 dec1); unfold bodyC at this; rw [hb] at this; exact this
     obtain ⟨e, tr', σ', k1, k2, k3⟩ := z1hu hV c _ hok (fun e he => by cases he) ⟨fun z hz => by
       rcases List.mem_cons.1 (zpt hz) with e | hm
       · rw [e]; simp only [TV.wf]
       · exact z3u.1 hwx _ hm, fun o ho => by cases ho⟩ hev
     cases e <;> first | (cases k3; done) | (cases k3; exact k1)
   · cases hev
 obtain ⟨dec, hdec⟩ : ∃ dec, dec = onY h.l h.dec := ⟨_, rfl⟩
 have hd : DecOK h dec := ⟨hemb, fun l tr b e => by
   rw [hdec] at e
   unfold onY at e
   split at e
   · rename_i e1; exact ⟨e1, e⟩
   · cases e⟩
 have hev := hF dec h.l x
 rw [hdec, hG _ _ _ _ hfn, ← hdec] at hev
 unfold fnY at hev
 split at hev
 · rename_i c hb
   have hok : HOKY P A dec c (g dec) := by have := hh dec; unfold bodyC at this; rw [hb] at this; exact this
   have ht := z1bq (ro := none) hV hd c (g dec) hok hev
   have hm : ci.m = [] := List.eq_nil_of_length_eq_zero two.i.len
   refine (callsIn_wide (n := 0)).1 (callsIn_of_wp_marks (F := Wd none) hfun hb trivial (ht ci [] _ w _ ⟨hpn, two.i, ?_⟩ ⟨fun z hz => ?_, fun o ho => by cases ho⟩ ⟨⟨cb, Hb, two, hJ, (fun D hD => by cases hD), (fun l e => by cases e)⟩, fun k hk => ?_, h0, List.nodup_nil, fun D hD => (by cases hD), fun l e => (by cases e)⟩ rfl ?_))
   · refine ⟨by simp [TS.flat, initY, hsz]; omega, fun t p hl hlt => ?_⟩
     simp only [TS.flat, initY, zuj] at hl
     obtain ⟨_, h2⟩ := zto _ 0 t p hl
     simp only [Nat.sub_zero] at h2
     have hall : VRs w ci ((TV.yl h.l :: capsP C x).map TV.pv) (fun i => (#[Value.func (.yield h.l) #[] #[]] ++ vs)[i]?) := by
       simp only [List.map_cons, VRs]
       refine ⟨⟨.func (.yield h.l) #[] #[], ?_, ?_⟩, ?_⟩
       · rw [Array.getElem?_append_left (by simp)]; rfl
       · simp only [TV.pv, VR]; exact ⟨trivial, rfl⟩
       · refine z2d fun i p hp => ?_
         obtain ⟨v, e1, e2⟩ := z0s hv hp
         exact ⟨v, by simpa [Array.getElem?_append, Nat.add_comm] using e1, e2⟩
     obtain ⟨v, h3, h4⟩ := z0s hall h2
     have hlt' : t < (#[Value.func (.yield h.l) #[] #[]] ++ vs).size := by
       have := (List.getElem?_eq_some_iff.1 h2).1
       simp [hsz] at this ⊢; omega
     exact ⟨v, by rw [Array.getElem?_append_left hlt']; exact h3, h4⟩
   · have := zpt hz
     rcases List.mem_cons.1 this with e | hm
     · rw [e]; simp only [TV.wf]
     · exact z3u.1 hwx _ hm
   · unfold Cx.own at hk; rw [hm] at hk; cases hk
   · intro e c' ds' a' w' σ' tr' hQ hw' hr' hi' hd'
     obtain ⟨⟨cb', Hb', two', hJ', hdc, _⟩, hn, h0', nd, hd2, _⟩ := hi'
     have fin : LeavesInM (Wd none) 0 P func a'.tmps (fun e w' => ∃ v, e = .returned v ∧ ∃ cb' Hb' ci' Hi', Two h.K0 h.X w' cb' Hb' ci' Hi' ∧ h.J tr' w' cb' Hb') a'.defers .returning w' := by
       rw [hd']
       refine z1jq hres nd (fun D hD => ?_) h0' two' hJ'
       obtain ⟨k1, k2, k3, k4⟩ := hd2 D hD
       exact ⟨k1, Nat.le_trans h.gbn k1, k2, k3, hdc D hD, k4⟩
     cases e with
     | normal => cases hQ; exact fin
     | ret => cases hQ; exact fin
     | exit id => cases hQ
     | goto l => cases hQ
     | panic ch => cases hQ
     | outgrown => cases hQ
 · cases hev
def addS (σ : TS) (t : Nat) (v : TV) : TS := { σ with slots := (t, v) :: σ.slots }
def XE.yl (t : Nat) (S : XE) : XE where
 T := Nat × S.T
 fit := S.fit
 close := fun σ k => match σ.get t with
   | .yl l => S.close σ fun s => k (l, s)
   | _ => none
 st := fun x => addS (S.st x.2) t (.yl x.1)
theorem XE.yl_ok (t : Nat) {S : XE} (h : S.OK) : (XE.yl t S).OK := by
 intro R σ k r hw hc
 simp only [XE.yl] at hc ⊢
 split at hc
 · rename_i l hl
   obtain ⟨s, h1, h2⟩ := h R σ _ r hw hc
   refine ⟨(l, s), h1, ⟨fun z hz => ?_, h2.1.H⟩, fun w c a hr => ?_⟩
   · rcases List.mem_cons.1 hz with e | hz
     · rw [e]; simp only [TV.wf]
     · exact h2.1.slots z hz
   · obtain ⟨c2, hr2, hx⟩ := h2.2 w c a hr
     refine ⟨c2, ⟨hr2.1, hr2.2.1, hr2.2.2.1, fun t' p hlk hlt => ?_⟩, hx⟩
     simp only [addS, TS.flat, List.map_cons, Ab.look] at hlk hlt
     cases hb : Nat.beq t t' with
     | false => rw [hb] at hlk; exact hr2.2.2.2 t' p hlk hlt
     | true =>
       rw [hb] at hlk
       simp only [cond_true, Option.some.injEq] at hlk
       have et := Nat.eq_of_beq_eq_true hb
       subst et; subst hlk
       have hv := hr.2.2.eval (.tmp t)
       simp only [AS.eval, zl2, hl, TV.pv, VR] at hv
       have hsz : t < a.tmps.size := by
         have := hr2.2.2.1
         simp only [TS.flat] at this
         rw [this]; exact hlt
       refine ⟨a.tmps[t], by simp [hsz], ?_⟩
       simp only [TV.pv, VR]
       simpa [Act.eval, Array.getD_eq_getD_getElem?, hsz] using hv
 · cases hc
end Go.Tm
set_option linter.unusedSimpArgs false
set_option linter.unusedVariables false
namespace Go.Tm
open Go.Ab
mutual
def lowP (q : Nat) : PV → Prop
 | .val _ => True
 | .ptr b _ => b < q
 | .fz cs => lowPs q cs
 | .sl b _ _ _ => b < q
 | .tr _ cs t => t.isTok = false ∧ lowPs q cs
 | .fn _ caps => lowPs q caps
 | .agg cs => lowPs q cs
 | .tup cs => lowPs q cs
 | .ifc _ p => lowP q p
 | .one => True
 | .dead => True
def lowPs (q : Nat) : List PV → Prop
 | [] => True
 | p :: ps => lowP q p ∧ lowPs q ps
end
mutual
theorem za0 (q : Nat) : ∀ p : PV, Ab.Pure p → lowP q p
 | .val _, _ => by simp only [lowP]
 | .ptr _ _, h => by simp only [Ab.Pure] at h
 | .fz cs, h => by simp only [Ab.Pure] at h; simp only [lowP]; exact z4b q cs h
 | .sl _ _ _ _, h => by simp only [Ab.Pure] at h
 | .tr _ cs t, h => by simp only [Ab.Pure] at h; simp only [lowP]; exact ⟨h.1, z4b q cs h.2⟩
 | .fn _ caps, h => by simp only [Ab.Pure] at h; simp only [lowP]; exact z4b q caps h
 | .agg cs, h => by simp only [Ab.Pure] at h; simp only [lowP]; exact z4b q cs h
 | .tup cs, h => by simp only [Ab.Pure] at h; simp only [lowP]; exact z4b q cs h
 | .ifc _ p, h => by simp only [Ab.Pure] at h; simp only [lowP]; exact za0 q p h
 | .one, _ => by simp only [lowP]
 | .dead, _ => by simp only [lowP]
theorem z4b (q : Nat) : ∀ ps : List PV, Pures ps → lowPs q ps
 | [], _ => by simp only [lowPs]
 | p :: ps, h => by simp only [Pures] at h; simp only [lowPs]; exact ⟨za0 q p h.1, z4b q ps h.2⟩
end
theorem z17g {q : Nat} : ∀ {a b : List PV}, lowPs q a → lowPs q b → lowPs q (a ++ b)
 | [], b, _, h => h
 | p :: a, b, h, g => by simp only [lowPs, List.cons_append] at h ⊢; exact ⟨h.1, z17g h.2 g⟩
mutual
def lowT (q : Nat) : TV → Bool
 | .ptr b _ _ => Nat.blt b q
 | .os b _ _ _ _ _ => Nat.blt b q
 | .agg ts => lowTs q ts
 | .tup ts => lowTs q ts
 | .fn _ ts => lowTs q ts
 | t => t.pureB
def lowTs (q : Nat) : List TV → Bool
 | [] => true
 | t :: ts => lowT q t && lowTs q ts
end
mutual
theorem z1is (q : Nat) : ∀ t : TV, t.wf → lowT q t = true → lowP q t.pv ∧ lowPs q t.cells
 | .ptr b r p, hw, h => by
   simp only [lowT] at h
   have := Nat.blt_eq.mp h
   simp only [TV.cells, TV.pv, cellsOf, lowP, lowPs]
   exact ⟨this, this, trivial⟩
 | .os b r p u lo n, hw, h => by
   simp only [lowT] at h
   have := Nat.blt_eq.mp h
   simp only [TV.cells, TV.pv, cellsOf, lowP, lowPs]
   exact ⟨this, this, trivial⟩
 | .agg ts, hw, h => by
   simp only [lowT] at h
   simp only [TV.wf] at hw
   have := zyy q ts hw.2.1 h
   simp only [TV.cells, TV.pv, cellsOf, lowP]
   exact ⟨this.2, this.2⟩
 | .tup ts, hw, h => by
   simp only [lowT] at h
   simp only [TV.wf] at hw
   have := zyy q ts hw h
   simp only [TV.cells, TV.pv, cellsOf, lowP, lowPs]
   exact ⟨this.1, this.1, trivial⟩
 | .fn f ts, hw, h => by
   simp only [lowT] at h
   simp only [TV.wf] at hw
   have := zyy q ts hw h
   simp only [TV.cells, TV.pv, cellsOf, lowP, lowPs]
   exact ⟨this.1, this.1, trivial⟩
 | .v u x, hw, h => by have := z4r _ hw (by simpa only [lowT] using h); exact ⟨za0 q _ this.1, z4b q _ this.2⟩
 | .rf t, hw, h => by have := z4r _ hw (by simpa only [lowT] using h); exact ⟨za0 q _ this.1, z4b q _ this.2⟩
 | .nil, hw, h => by have := z4r _ hw (by simpa only [lowT] using h); exact ⟨za0 q _ this.1, z4b q _ this.2⟩
 | .fsl u l, hw, h => by have := z4r _ hw (by simpa only [lowT] using h); exact ⟨za0 q _ this.1, z4b q _ this.2⟩
 | .osf u l lo n, hw, h => by have := z4r _ hw (by simpa only [lowT] using h); exact ⟨za0 q _ this.1, z4b q _ this.2⟩
 | .one, hw, h => by have := z4r _ hw (by simpa only [lowT] using h); exact ⟨za0 q _ this.1, z4b q _ this.2⟩
 | .nilp, hw, h => by have := z4r _ hw (by simpa only [lowT] using h); exact ⟨za0 q _ this.1, z4b q _ this.2⟩
 | .nilf, hw, h => by have := z4r _ hw (by simpa only [lowT] using h); exact ⟨za0 q _ this.1, z4b q _ this.2⟩
 | .yl l, hw, h => by have := z4r _ hw (by simpa only [lowT] using h); exact ⟨za0 q _ this.1, z4b q _ this.2⟩
 | .nili, hw, h => by have := z4r _ hw (by simpa only [lowT] using h); exact ⟨za0 q _ this.1, z4b q _ this.2⟩
 | .nilm, hw, h => by have := z4r _ hw (by simpa only [lowT] using h); exact ⟨za0 q _ this.1, z4b q _ this.2⟩
 | .ifc t x, hw, h => by have := z4r _ hw (by simpa only [lowT] using h); exact ⟨za0 q _ this.1, z4b q _ this.2⟩
 | .dead, hw, h => by have := z4r _ hw (by simpa only [lowT] using h); exact ⟨za0 q _ this.1, z4b q _ this.2⟩
theorem zyy (q : Nat) : ∀ ts : List TV, TV.wfs ts → lowTs q ts = true → lowPs q (TV.pvs ts) ∧ lowPs q (TV.cellsL ts)
 | [], _, _ => by simp only [TV.pvs, TV.cellsL, lowPs, and_self]
 | t :: ts, hw, h => by
   simp only [TV.wfs] at hw
   simp only [lowTs, Bool.and_eq_true] at h
   have h1 := z1is q t hw.1 h.1
   have h2 := zyy q ts hw.2 h.2
   simp only [TV.pvs, TV.cellsL, lowPs]
   exact ⟨⟨h1.1, h2.1⟩, z17g h1.2 h2.2⟩
end
structure PSees (q : Nat) (w : World) (c : Cx) (w' : World) (c' : Cx) : Prop where
 m : ∀ b k : Nat, b < q → c.m[b]? = some (some k) → c'.m[b]? = some (some k)
 foot : ∀ a n, Foot w c a n → Foot w' c' a n
 cell : ∀ (a : Addr) n i v, Foot w c a n → i < n → w.cell? ⟨a.block, a.off + i, none⟩ = some v → w'.cell? ⟨a.block, a.off + i, none⟩ = some v
 room : ∀ (b k : Nat) vs e fr, b < q → c.m[b]? = some (some k) → w.heap[k]? = some (Obj.cells vs e fr) → ∃ (vs' : Array Value) (fr' : Nat × Nat), w'.heap[k]? = some (Obj.cells vs' e fr') ∧ vs'.size = vs.size
mutual
theorem VR.psees {q : Nat} {w w' : World} {c c' : Cx} (x : PSees q w c w' c') : ∀ (p : PV) {v : Value}, lowP q p → VR w c p v → VR w' c' p v
 | .val _, _, _, h => by simp only [VR] at h ⊢; exact h
 | .ptr b off, _, hl, h => by
   simp only [VR, lowP] at h hl ⊢
   obtain ⟨k, h1, h2⟩ := h
   exact ⟨k, x.m _ _ hl h1, h2⟩
 | .fz cs, _, hp, h => by
   simp only [VR, lowP] at h hp ⊢
   obtain ⟨a, h1, h2, hl, h3⟩ := h
   exact ⟨a, h1, x.foot _ _ h2, hl, VRs.psees x cs hp (fun i hi v hv => x.cell a _ i v h2 hi hv) h3⟩
 | .sl b off len sz, _, hl, h => by
   simp only [VR, lowP] at h hl ⊢
   rcases h with h | ⟨k, cap, off', h1, h2, h0, h3, vs, e, fr, h4, h5⟩
   · exact .inl h
   · obtain ⟨vs', fr', h6, h7⟩ := x.room b k vs e fr hl h1 h4
     exact .inr ⟨k, cap, off', x.m _ _ hl h1, h2, h0, h3, vs', e, fr', h6, by omega⟩
 | .tr len cs t, _, hp, h => by
   simp only [VR, lowP] at h hp ⊢
   rcases h with h | ⟨a, cap, h1, hc, h2, h4, hl, h3⟩
   · exact .inl h
   · refine .inr ⟨a, cap, h1, hc, x.foot _ _ h2, ?_, hl, VRs.psees x cs hp.2 (fun i hi v hv => x.cell a _ i v h2 hi hv) h3⟩
     cases t with
     | no => trivial
     | full => exact h4
     | tok i sz => simp [Tail.isTok] at hp
 | .fn f caps, _, hp, h => by
   simp only [VR, lowP] at h hp ⊢
   obtain ⟨cv, h1, h2, h3⟩ := h
   exact ⟨cv, h1, h2, VRs.psees x caps hp (fun _ _ _ e => e) h3⟩
 | .agg cs, _, hp, h => by
   simp only [VR, lowP] at h hp ⊢
   obtain ⟨cv, h1, h2, hl, h3⟩ := h
   exact ⟨cv, h1, h2, hl, VRs.psees x cs hp (fun _ _ _ e => e) h3⟩
 | .tup cs, _, hp, h => by
   simp only [VR, lowP] at h hp ⊢
   obtain ⟨cv, h1, h2, h3⟩ := h
   exact ⟨cv, h1, h2, VRs.psees x cs hp (fun _ _ _ e => e) h3⟩
 | .ifc t p, _, hp, h => by
   simp only [VR, lowP] at h hp ⊢
   obtain ⟨v, h1, h2⟩ := h
   exact ⟨v, h1, VR.psees x p hp h2⟩
 | .one, _, _, h => by simp only [VR] at h ⊢; exact h
 | .dead, _, _, _ => by simp only [VR]
theorem VRs.psees {q : Nat} {w w' : World} {c c' : Cx} (x : PSees q w c w' c') : ∀ (ps : List PV) {f g : Nat → Option Value}, lowPs q ps →
   (∀ i, i < ps.length → ∀ v, f i = some v → g i = some v) → VRs w c ps f → VRs w' c' ps g
 | [], _, _, _, _, _ => by simp only [VRs]
 | p :: ps, f, g, hp, hfg, h => by
   simp only [VRs, lowPs] at h hp ⊢
   obtain ⟨⟨v, h1, h2⟩, h3⟩ := h
   exact ⟨⟨v, hfg 0 (by simp) v h1, VR.psees x p hp.1 h2⟩, VRs.psees x ps hp.2 (fun i hi u hu => hfg (i + 1) (by simp; omega) u hu) h3⟩
end
theorem z1mr {q : Nat} {w w' : World} {c c' c2 : Cx} (hT : c.T = []) (hT2 : c2.T = []) (x : ExtP q w c w' c') (hm : c2.m = c'.m) (hok : ∀ k e, k < w.heap.size → some k ∉ c.m → c.ok k e → c2.ok k e) : PSees q w c w' c2 where
 m := fun b k hb h => by rw [hm]; exact x.pin b k hb h
 foot := fun a n h => by
   rcases h with h | ⟨h1, h2, h3, h4, h5⟩
   · exact .inl h
   · exact .inr ⟨h1, Nat.lt_of_lt_of_le h2 x.size, by rw [hm]; exact fun h' => (x.new _ h').elim h3 fun h'' => absurd h2 (Nat.not_lt.2 h''), fun i k h => by rw [hT2] at h; simp at h, hok _ _ h2 h3 h5⟩
 cell := fun a n i v h hi hv => by
   rcases h with h | ⟨h1, h2, h3, h4, h5⟩
   · omega
   · have : w'.cell? ⟨a.block, a.off + i, none⟩ = w.cell? ⟨a.block, a.off + i, none⟩ := z6h (x.blocks _ h2 h3)
     rw [this]; exact hv
 room := fun b k vs e fr _ _ hh => x.room k vs e fr hh
theorem z1j3 {q n : Nat} {w w' : World} {c c2 : Cx} {sl : List (Nat × TV)} {H H' : List AObj} {tm : Array Value} (x : PSees q w c w' c2) (hwf : ∀ z, z ∈ sl → z.2.wf) (hlow : lowTs q (sl.map (·.2)) = true)
   (h : SlotsR w c ⟨n, sl.map (fun x => (x.1, x.2.pv)), H, []⟩ tm) : SlotsR w' c2 ⟨n, sl.map (fun x => (x.1, x.2.pv)), H', []⟩ tm := by
 refine ⟨h.1, fun t p hl ht => ?_⟩
 obtain ⟨v, h1, h2⟩ := h.2 t p hl ht
 refine ⟨v, h1, VR.psees x p ?_ h2⟩
 simp only at hl
 rw [zfj] at hl
 cases hlk : lookT sl t with
 | none => rw [hlk] at hl; cases hl
 | some u =>
   rw [hlk] at hl
   simp only [Option.map_some, Option.some.injEq] at hl
   subst hl
   obtain ⟨z, hz, e⟩ := zp1 hlk
   have hall : ∀ (l : List TV), lowTs q l = true → ∀ t, t ∈ l → lowT q t = true := by
     intro l
     induction l with
     | nil => intro _ t ht; cases ht
     | cons a l ih =>
       intro hl t ht
       simp only [lowTs, Bool.and_eq_true] at hl
       rcases List.mem_cons.1 ht with rfl | ht
       · exact hl.1
       · exact ih hl.2 t ht
   have hm : u ∈ sl.map (·.2) := by rw [← e]; exact List.mem_map_of_mem hz
   rw [← e]
   exact (z1is q _ (hwf z hz) (by rw [e]; exact hall _ hlow u hm)).1
end Go.Tm
set_option linter.unusedSimpArgs false
set_option linter.unusedVariables false
namespace Go.Tm
open Go.Ab
def runB {T E Y : Type} (B : T → E → Option (T ⊕ Y)) : T → List E → Option (T ⊕ Y)
 | h, [] => some (.inl h)
 | h, x :: tr => (B h x).bind fun s => match s with
   | .inl h' => runB B h' tr
   | .inr y => match tr with
     | [] => some (.inr y)
     | _ :: _ => none
def decB {T E Y : Type} (B : T → E → Option (T ⊕ Y)) (h : T) (tr : List E) : Option Bool := (runB B h tr).map Sum.isLeft
theorem z1fv {T E Y : Type} {B : T → E → Option (T ⊕ Y)} : ∀ {tr : List E} {h : T} {x : E} {s : T ⊕ Y}, runB B h (tr ++ [x]) = some s → ∃ h', runB B h tr = some (.inl h') ∧ B h' x = some s
 | [], h, x, s, hh => by
   simp only [List.nil_append, runB] at hh ⊢
   rw [Option.bind_eq_some_iff] at hh
   obtain ⟨y, h1, h2⟩ := hh
   refine ⟨h, rfl, ?_⟩
   rw [h1]
   cases y <;> simpa using h2
 | z :: tr, h, x, s, hh => by
   simp only [List.cons_append, runB] at hh ⊢
   rw [Option.bind_eq_some_iff] at hh
   obtain ⟨y, h1, h2⟩ := hh
   rw [h1]
   simp only [Option.bind_some]
   cases y with
   | inl h' => exact z1fv h2
   | inr y => cases tr <;> simp at h2
def putsT : List Tmp → List TV → TS → TS
 | p :: ps, v :: vs, σ => putsT ps vs (σ.put (some p) v)
 | _, _, σ => σ
theorem z1k1 : ∀ (ps : List Tmp) (vs : List TV) (σ : TS), (putsT ps vs σ).p = σ.p ∧ (putsT ps vs σ).H = σ.H
 | [], _, _ => ⟨rfl, rfl⟩
 | _ :: _, [], _ => ⟨rfl, rfl⟩
 | p :: ps, v :: vs, σ => z1k1 ps vs _
theorem z1ai : ∀ (ps : List Tmp) (vs : List TV) (σ : TS), σ.wf → TV.wfs vs → (putsT ps vs σ).wf
 | [], _, _, h, _ => h
 | _ :: _, [], _, h, _ => h
 | p :: ps, v :: vs, σ, h, hv => by
   simp only [TV.wfs] at hv
   exact z1ai ps vs _ (z7j h _ hv.1) hv.2
theorem z1im {w : World} {c : Cx} : ∀ (ps : List Tmp) (ts : List TV) (vs : List Value) {σ : TS} {tm : Array Value}, RelT w c σ { tmps := tm, defers := [] } → VRs w c (ts.map TV.pv) (fun i => vs[i]?) → vs.length = ts.length →
   RelT w c (putsT ps ts σ) { tmps := (ps.zip vs).foldl (fun t x => t.setIfInBounds x.1 x.2) tm, defers := [] }
 | [], ts, vs, σ, tm, hr, _, _ => by simpa only [putsT, List.zip_nil_left, List.foldl_nil] using hr
 | p :: ps, [], [], σ, tm, hr, _, _ => by simpa only [putsT, List.zip_nil_right, List.foldl_nil] using hr
 | p :: ps, [], v :: vs, σ, tm, hr, _, hl => by simp at hl
 | p :: ps, t :: ts, [], σ, tm, hr, _, hl => by simp at hl
 | p :: ps, t :: ts, v :: vs, σ, tm, hr, hv, hl => by
   simp only [List.map_cons, VRs] at hv
   obtain ⟨⟨v', h1, h2⟩, h3⟩ := hv
   simp only [List.getElem?_cons_zero, Option.some.injEq] at h1
   subst h1
   simp only [putsT, List.zip_cons_cons, List.foldl_cons]
   refine z1im ps ts vs ?_ (by simpa using h3) (by simpa using hl)
   exact zlp (some p) hr h2
noncomputable def z11p (P : Program) (V : Env) (A : List Pat) (ps : Array Tmp) (assign body : Code) (g1 g2 : HT) (Sh : Shp) (X : XS) (n : Nat) (sl : List (Nat × TV)) (h : LT Sh.codes) (x : LT (z0b A)) : Option (LT Sh.codes ⊕ X.T) :=
 evalK P V assign g1 (putsT ps.toList (embP A x) ⟨n, sl, (Sh.st h).H, Sh.pn⟩) fun e σ1 => match e with
   | .normal => evalK P V body g2 σ1 fun e σ' => match e with
     | .normal => Sh.close σ' fun h' => some (.inl h')
     | .ret => X.close .ret σ' fun y => some (.inr y)
     | .exit id => X.close (.exit id) σ' fun y => some (.inr y)
     | _ => none
   | _ => none
def XS.no : XS where
 T := Empty
 close := fun _ _ _ => none
 open' := fun x _ => x.elim
 at' := fun x => x.elim
def zps : Exit → Option Code
 | .ret => some .ret
 | .exit id => some (.exit id)
 | _ => none
def z1mo (σ0 : TS) (Sh : Shp) (X : XS) : LT Sh.codes ⊕ X.T → Exit → TS → Prop
 | .inl h, e, σ' => e = .normal ∧ σ' = ⟨σ0.n, σ0.slots, (Sh.st h).H, σ0.p⟩
 | .inr y, e, σ' => e = (X.at' y).1 ∧ σ' = ⟨σ0.n, σ0.slots, (X.at' y).2.H, σ0.p⟩
def zjv {Sh : Shp} {X : XS} : LT Sh.codes ⊕ X.T → List TOb
 | .inl h => (Sh.st h).H
 | .inr y => (X.at' y).2.H
def jmpOf {Sh : Shp} {X : XS} : LT Sh.codes ⊕ X.T → Option Code
 | .inl _ => none
 | .inr y => zps (X.at' y).1
theorem z1o0 {P : Program} {w : World} {c : Cx} {ro : Option Nat} (hro : RecOK ro w c) (fn : FuncId) (tmps : Array Value) (ps : Array Tmp) (assign body : Code) :
   ∃ (l : Nat) (ms : List Nat) (dfr : Nat) (w1 : World), (Instr.enterLoop fn tmps ps assign body ro).run P w = .ok (l, ms.map mark) w1 ∧ w1.heap[l]? = some (.loop { state := .ready, pending := none, fn, tmps, params := ps, assign, body, defers := dfr }) ∧ ms.Nodup ∧
     (∀ D, D ∈ ms → w.heap.size ≤ D ∧ D ≠ l ∧ w1.heap[D]? = some (.deferred (some []))) ∧ w.heap.size ≤ l ∧ w.heap.size ≤ w1.heap.size ∧ w1.os = w.os ∧ w1.tape = w.tape ∧ w1.output = w.output ∧ ∀ k, k < w.heap.size → w1.heap[k]? = w.heap[k]? := by
 cases ro with
 | none =>
   refine ⟨w.heap.size + 1, [w.heap.size], w.heap.size, _, run_enterLoop_outer _ _ _ _ _, ?_, by simp, fun D hD => ?_, by omega, by simp; omega, rfl, rfl, rfl, fun k hk => ?_⟩
   · have := World.alloc_heap_new (w.alloc (.deferred (some []))) (.loop { state := .ready, pending := none, fn, tmps, params := ps, assign, body, defers := w.heap.size }); rwa [World.size_alloc] at this
   · rw [List.mem_singleton.1 hD]
     exact ⟨Nat.le_refl _, by omega, (Go.RowKit.Below.heap_alloc _ _ _ (by simp)).trans (World.alloc_heap_new w _)⟩
   · exact (Go.RowKit.Below.heap_alloc _ _ _ (by simp; omega)).trans (Go.RowKit.Below.heap_alloc _ _ _ hk)
 | some l0 =>
   obtain ⟨h1, r, h2⟩ := hro
   refine ⟨w.heap.size, [], r.defers, w.alloc (.loop { state := .ready, pending := none, fn, tmps, params := ps, assign, body, defers := r.defers }), ?_, World.alloc_heap_new _ _, by simp, fun D hD => (by cases hD), Nat.le_refl _, by simp, rfl, rfl, rfl, fun k hk => Go.RowKit.Below.heap_alloc _ _ _ hk⟩
   unfold Instr.enterLoop
   simp only [Sem.run_bind, run_getLoop h2, Result.andThen, Sem.run_pure, run_newObj_alloc, List.map_nil]
theorem zwl {w : World} {D : Nat} {r : Loop} (h : w.heap[D]? = some (.loop r)) (off : Nat) : w.cell? ⟨D, off, none⟩ = none := by
 simp [World.cell?, h]
theorem z1p5 {w : World} {c : Cx} {σ : TS} {a : Act} {l : Nat} {r : Loop} (o' : Obj) (hr : RelT w c σ a) (h : w.heap[l]? = some (.loop r)) (hm : some l ∉ c.m) (hgb : gb ≤ l) : RelT (w.putObj l o') c σ a := by
 obtain ⟨x, g⟩ := Tm.noncell (o := .loop r) o' hr.2.1 (zwl h) hm hgb
 exact ⟨hr.1, g, hr.2.2.1, fun t p hl ht => by
   obtain ⟨v, h1, h2⟩ := hr.2.2.2 t p hl ht
   exact ⟨v, h1, VR.sees x _ h2⟩⟩
theorem z1s4 {w : World} {c : Cx} {H : List AObj} {q : Nat} (g : Ab.Good w c H []) (h : c.pn ≤ q) : Ab.Good w { c with pn := q } H [] := by
 have hT : c.T = [] := List.eq_nil_of_length_eq_zero g.tl
 have x : Sees w c w { c with pn := q } := ⟨fun _ _ h => h, hT, fun a n hf => hf, fun _ _ _ _ _ _ h => h, fun b k vs e fr _ hh => ⟨vs, fr, hh, rfl⟩⟩
 refine ⟨g.len, g.inj, fun b o ho => ?_, g.tl, g.tal, g.tdead, fun i k j h => by rw [show ({ c with pn := q } : Cx).T = c.T from rfl, hT] at h; simp at h, g.tinj, g.okn, g.okm, fun i k j hi => by rw [show ({ c with pn := q } : Cx).T = c.T from rfl, hT] at hi; simp at hi, fun b k hb hk e => g.oko b k (Nat.le_trans h hb) hk e, ⟨g.gl.sz, g.gl.m, g.gl.T, g.gl.var⟩⟩
 have hob := g.obj b o ho
 cases o with
 | row cs e =>
   rcases hob with ⟨h1, h2⟩ | ⟨k, vs, fr, h1, h2, hf, h3, hl, h4⟩
   · exact .inl ⟨h1, h2⟩
   · exact .inr ⟨k, vs, fr, h1, h2, hf, h3, hl, VRs.sees x cs (fun _ _ _ e => e) h4⟩
 | raw o => exact hob
 | gone => exact hob
theorem z1l0 {w w' : World} {c c' : Cx} {H H' : List AObj} {q : Nat} (g : Ab.Good w c H []) (h : c.pn ≤ q) (x : ExtP q w { c with pn := q } w' c') (g' : Ab.Good w' c' H' []) : Ab.Good w' { c' with pn := c.pn } H' [] := by
 have hT : c'.T = [] := List.eq_nil_of_length_eq_zero g'.tl
 have y : Sees w' c' w' { c' with pn := c.pn } := ⟨fun _ _ h => h, hT, fun a n hf => hf, fun _ _ _ _ _ _ h => h, fun b k vs e fr _ hh => ⟨vs, fr, hh, rfl⟩⟩
 have ho : ∀ k e, c'.ok k e ↔ c.ok k e := fun k e => by rw [x.ok]
 refine ⟨g'.len, g'.inj, fun b o ho => ?_, g'.tl, g'.tal, g'.tdead, fun i k j h => by rw [show ({ c' with pn := c.pn } : Cx).T = c'.T from rfl, hT] at h; simp at h, g'.tinj, g'.okn, g'.okm, fun i k j hi => by rw [show ({ c' with pn := c.pn } : Cx).T = c'.T from rfl, hT] at hi; simp at hi, fun b k hb hk e => ?_, ⟨g'.gl.sz, g'.gl.m, g'.gl.T, g'.gl.var⟩⟩
 · have hob := g'.obj b o ho
   cases o with
   | row cs e =>
     rcases hob with ⟨h1, h2⟩ | ⟨k, vs, fr, h1, h2, hf, h3, hl, h4⟩
     · exact .inl ⟨h1, h2⟩
     · exact .inr ⟨k, vs, fr, h1, h2, hf, h3, hl, VRs.sees y cs (fun _ _ _ e => e) h4⟩
   | raw o => exact hob
   | gone => exact hob
 · show c'.ok k e
   rw [ho]
   rcases x.new k (List.mem_of_getElem? hk) with hm | hm
   · obtain ⟨b2, hb2⟩ := List.mem_iff_getElem?.1 hm
     by_cases hlt : b2 < c.pn
     · have := x.pin b2 k (Nat.lt_of_lt_of_le hlt h) hb2
       have e2 := g'.inj _ _ _ hk this
       have hb' : c.pn ≤ b := hb
       omega
     · exact g.oko b2 k (Nat.le_of_not_lt hlt) hb2 e
   · exact g.okn k e hm
theorem z1hp {p : Nat} {w w' : World} {c c' : Cx} {o : Nat → Nat → Prop} (x : ExtP p w c w' c') : ExtP p w { c with ok := o } w' { c' with ok := o } := ⟨x.os, x.tape, x.output, x.size, x.new, x.blocks, rfl, x.pn, x.pin, x.room⟩
structure Lp (A : List Pat) (Sh : Shp) (X : XS) where
 w : World
 c : Cx
 q : Nat
 ms : List Nat
 l : Nat
 fid : FuncId
 tmps : Array Value
 ps : Array Tmp
 assign : Code
 body : Code
 dfr : Nat
 B : LT Sh.codes → LT (z0b A) → Option (LT Sh.codes ⊕ X.T)
 h0 : LT Sh.codes
 n : Nat
 sl : List (Nat × TV)
def Lp.rec' {A : List Pat} {Sh : Shp} {X : XS} (L : Lp A Sh X) (s : LoopState) (p : Option Code) : Loop := { state := s, pending := p, fn := L.fid, tmps := L.tmps, params := L.ps, assign := L.assign, body := L.body, defers := L.dfr }
def Lp.cq {A : List Pat} {Sh : Shp} {X : XS} (L : Lp A Sh X) : Cx := { L.c with pn := L.q }
def Lp.X {A : List Pat} {Sh : Shp} {X : XS} (L : Lp A Sh X) (k : Nat) : Prop := k = L.l ∨ k ∈ L.ms
structure Lp.J {A : List Pat} {Sh : Shp} {X : XS} (L : Lp A Sh X) (s : LT Sh.codes ⊕ X.T) (tr : List (LT (z0b A))) (W : World) (cb : Cx) (Hb : List AObj) : Prop where
 run : runB L.B L.h0 tr = some s
 ext : ExtP L.q L.w L.cq W { cb with ok := L.c.ok }
 ms : ∀ D, D ∈ L.ms → W.heap[D]? = some (.deferred (some []))
 l : W.heap[L.l]? = some (.loop (L.rec' (if (jmpOf s).isNone then .ready else .done) (jmpOf s)))
 H : Hb = (zjv s).map TOb.flat
 wf : ∀ o, o ∈ zjv s → o.wf
 lft : s.isLeft = (jmpOf s).isNone
structure Lp.OK {A : List Pat} {Sh : Shp} {X : XS} (P : Program) (V : Env) (g1 g2 : HT) (L : Lp A Sh X) : Prop where
 hV : EnvsOK P V
 ok1 : HOK P L.assign g1
 ok2 : HOK P L.body g2
 hX : X.OK
 T : L.c.T = []
 q : Sh.pn = L.q
 slwf : ∀ z, z ∈ L.sl → z.2.wf
 low : lowTs L.q (L.sl.map (·.2)) = true
 len : ∀ x, (embP A x).length = L.ps.size
 pu : ∀ x, zc1 (embP A x) = true
 hB : ∀ h x, z11p P V A L.ps L.assign L.body g1 g2 Sh X L.n L.sl h x = L.B h x
 slots : ∃ H, SlotsR L.w L.c ⟨L.n, L.sl.map (fun x => (x.1, x.2.pv)), H, []⟩ L.tmps
 gbn : gb ≤ L.w.heap.size
 ms : ∀ D, D ∈ L.ms → L.w.heap.size ≤ D ∧ D ≠ L.l
 ll : L.w.heap.size ≤ L.l
 okm : ∀ k e e', L.c.ok k e → e' ≤ e → L.c.ok k e'
theorem Lp.OK.Xge {A : List Pat} {Sh : Shp} {X : XS} {P : Program} {V : Env} {g1 g2 : HT} {L : Lp A Sh X} (h : L.OK P V g1 g2) {k : Nat} (hk : L.X k) : L.w.heap.size ≤ k := hk.elim (fun e => by rw [e]; exact h.ll) fun hD => (h.ms k hD).1
theorem Lp.stay {A : List Pat} {Sh : Shp} {X : XS} {L : Lp A Sh X} {s : LT Sh.codes ⊕ X.T} {tr : List (LT (z0b A))} {W W' : World} {cb : Cx} {Hb : List AObj} {ok' : Nat → Nat → Prop} (j : L.J s tr W cb Hb) (hn0 : L.w.heap.size ≤ W.heap.size)
   (fo : Foreign (fun k => L.w.heap.size ≤ k ∧ ¬ cb.own k ∧ ¬ L.X k) W W') (hk : Kinds W W') : L.J s tr W' { cb with ok := ok' } Hb := by
 have kX : ∀ k, L.X k → k < W.heap.size → W'.heap[k]? = W.heap[k]? := fun k hk hlt => fo.keep k hlt fun h => h.2.2 hk
 have x := j.ext
 refine ⟨j.run, ⟨fo.os.trans x.os, fo.tape.trans x.tape, fo.output.trans x.output, Nat.le_trans x.size fo.size, x.new, fun k hk hm => (fo.keep k (Nat.lt_of_lt_of_le hk hn0) fun h => absurd hk (Nat.not_lt.2 h.1)).trans (x.blocks k hk hm), x.ok, x.pn, x.pin, fun k vs e fr h => ?_⟩,
   fun D hD => (kX D (.inr hD) (Array.getElem?_eq_some_iff.1 (j.ms D hD)).1).trans (j.ms D hD), (kX L.l (.inl rfl) (Array.getElem?_eq_some_iff.1 j.l).1).trans j.l, j.H, j.wf, j.lft⟩
 obtain ⟨vs1, fr1, k1, k2⟩ := x.room k vs e fr h
 obtain ⟨vs2, fr2, k3, k4⟩ := hk k vs1 e fr1 k1
 exact ⟨vs2, fr2, k3, k4.trans k2⟩
theorem Lp.slots {A : List Pat} {Sh : Shp} {X : XS} {P : Program} {V : Env} {g1 g2 : HT} {L : Lp A Sh X} (hL : L.OK P V g1 g2) {W : World} {c' c2 : Cx} {H' : List AObj} (hT2 : c2.T = []) (x : ExtP L.q L.w L.cq W c') (hm : c2.m = c'.m) (hok : ∀ k e, k < L.w.heap.size → some k ∉ L.c.m → L.c.ok k e → c2.ok k e) :
   SlotsR W c2 ⟨L.n, L.sl.map (fun x => (x.1, x.2.pv)), H', []⟩ L.tmps := by
 obtain ⟨H, hs⟩ := hL.slots
 refine z1j3 (H := H) (c := L.cq) (z1mr (c' := c') hL.T hT2 x hm hok) hL.slwf hL.low ?_
 refine ⟨hs.1, fun t p hl ht => ?_⟩
 obtain ⟨v, k1, k2⟩ := hs.2 t p hl ht
 refine ⟨v, k1, ?_⟩
 have y : Sees L.w L.c L.w L.cq := ⟨fun _ _ h => h, hL.T, fun a n hf => hf, fun _ _ _ _ _ _ h => h, fun b k vs e fr _ hh => ⟨vs, fr, hh, rfl⟩⟩
 exact VR.sees y _ k2
theorem Lp.fin {A : List Pat} {Sh : Shp} {X : XS} {P : Program} {V : Env} {g1 g2 : HT} {L : Lp A Sh X} (hL : L.OK P V g1 g2) {tr : List (LT (z0b A))} {x : LT (z0b A)} {s s' : LT Sh.codes ⊕ X.T} {W w' w2 w3 : World} {cb c' c2 ci : Cx} {Hb Hi : List AObj} {σ2 τ : TS} {a2 : Act} {b : Bool}
   (two : Two L.c.ok L.X W cb Hb ci Hi) (j : L.J s tr W cb Hb) (hst' : runB L.B L.h0 (tr ++ [x]) = some s') (hb : s'.isLeft = b) (hx' : ExtP L.q W cb w' c') (hw2 : w'.putObj L.l (.loop { L.rec' .ready none with state := .busy }) = w2) (hx3 : ExtP L.q w2 c' w3 c2)
   (hl3 : w3.heap[L.l]? = some (.loop { L.rec' .ready none with state := .busy })) (hr3 : RelT w3 c2 σ2 a2) (ep2 : σ2.p = L.q) (hτ : Wk σ2 τ) (hτH : τ.H = zjv s') (hjl : s'.isLeft = (jmpOf s').isNone) :
   ∃ v w4, (Instr.endRound L.l (jmpOf s')).run P w3 = .ok v w4 ∧ (Ending.returned v = Ending.returned (.bool b) ∧ ∃ cb' Hb', Foreign (fun k => cb.own k ∨ L.X k) W w4 ∧ Grows W cb.own cb'.own ∧ cb'.ok = cb.ok ∧ Ab.Good w4 cb' Hb' [] ∧ L.J s' (tr ++ [x]) w4 cb' Hb') := by
 obtain ⟨c3, hr4, hx4⟩ := hτ.2 w3 c2 a2 hr3
 have hx4' := hx4 w3 c2 (ExtP.refl _ _ _)
 rw [ep2] at hx4'
 have hlW : L.l < W.heap.size := (Array.getElem?_eq_some_iff.1 j.l).1
 have hlm : some L.l ∉ cb.m := two.xb L.l (.inl rfl)
 have hlm' : some L.l ∉ c'.m := fun h => (hx'.new L.l h).elim hlm fun h' => absurd hlW (Nat.not_lt.2 h')
 have hs2 : w2.heap.size = w'.heap.size := by rw [← hw2]; simp
 have hk2 : ∀ k, k ≠ L.l → w2.heap[k]? = w'.heap[k]? := fun k hk => by rw [← hw2]; exact World.putObj_heap_other hk
 have hl2lt : L.l < w2.heap.size := by rw [hs2]; exact Nat.lt_of_lt_of_le hlW hx'.size
 have hlm2 : some L.l ∉ c2.m := fun h => (hx3.new L.l h).elim hlm' fun h' => absurd hl2lt (Nat.not_lt.2 h')
 have hl3lt : L.l < w3.heap.size := (Array.getElem?_eq_some_iff.1 hl3).1
 have hlm3 : some L.l ∉ c3.m := fun h => (hx4'.new L.l h).elim hlm2 fun h' => absurd hl3lt (Nat.not_lt.2 h')
 have he := run_endRound (P := P) (jmpOf s') hl3
 have hgl : gb ≤ L.l := Nat.le_trans hL.gbn hL.ll
 have m' : ∀ k, k < W.heap.size → some k ∉ cb.m → some k ∉ c'.m := fun k hk hm h => (hx'.new k h).elim hm fun h' => absurd hk (Nat.not_lt.2 h')
 have kp : ∀ k, k < W.heap.size → some k ∉ cb.m → k ≠ L.l → w3.heap[k]? = W.heap[k]? := fun k hk hm hne => by
   have hk' : k < w2.heap.size := by rw [hs2]; exact Nat.lt_of_lt_of_le hk hx'.size
   rw [hx3.blocks k hk' (m' k hk hm), hk2 k hne, hx'.blocks k hk hm]
 refine ⟨_, _, he, by rw [← hb, hjl], c3, _, ?_, ?_, by rw [hx4'.ok, hx3.ok, hx'.ok], (noncell (o := .loop { L.rec' .ready none with state := .busy }) _ hr4.2.1 (zwl hl3) hlm3 hgl).2, ?_⟩
 · refine ⟨?_, ?_, ?_, ?_, fun k hk hm => (World.putObj_heap_other fun e => hm (.inr (.inl e))).trans (kp k hk (fun h => hm (.inl h)) fun e => hm (.inr (.inl e)))⟩
   · show w3.os = W.os; rw [hx3.os, ← hw2]; exact hx'.os
   · show w3.tape = W.tape; rw [hx3.tape, ← hw2]; exact hx'.tape
   · show w3.output = W.output; rw [hx3.output, ← hw2]; exact hx'.output
   · rw [World.putObj_size]; exact Nat.le_trans hx'.size (by rw [← hs2]; exact hx3.size)
 · intro k hk
   rcases hx4'.new k hk with hk | hk
   · rcases hx3.new k hk with hk | hk
     · exact hx'.new k hk
     · rw [hs2] at hk; exact .inr (Nat.le_trans hx'.size hk)
   · exact .inr (Nat.le_trans hx'.size (Nat.le_trans (by rw [← hs2]; exact hx3.size) hk))
 · have xa : ExtP L.q L.w L.cq w' { c' with ok := L.c.ok } := ExtP.trans j.ext (z1hp (o := L.c.ok) hx')
   have xb : ExtP L.q L.w L.cq w2 { c' with ok := L.c.ok } := by rw [← hw2]; exact z18i xa hL.ll
   have xc : ExtP L.q L.w L.cq w3 { c3 with ok := L.c.ok } := ExtP.trans (ExtP.trans xb (z1hp (o := L.c.ok) hx3)) (z1hp (o := L.c.ok) hx4')
   refine ⟨hst', z18i xc hL.ll, fun D hD => ?_, ?_, by rw [← hτH]; rfl, fun o ho => hτ.1.H o (by rw [hτH]; exact ho), hjl⟩
   · have hDne : D ≠ L.l := (hL.ms D hD).2
     have hDW := j.ms D hD
     rw [World.putObj_heap_other hDne, kp D (Array.getElem?_eq_some_iff.1 hDW).1 (two.xb D (.inr hD)) hDne]
     exact hDW
   · rw [World.putObj_heap_same hl3lt]; rfl
theorem Lp.yield {A : List Pat} {Sh : Shp} {X : XS} {P : Program} {V : Env} {g1 g2 : HT} {L : Lp A Sh X} (hL : L.OK P V g1 g2) {tr : List (LT (z0b A))} {x : LT (z0b A)} {b : Bool} {vs : Array Value} {s0 : LT Sh.codes ⊕ X.T} {W : World} {cb ci : Cx} {Hb Hi : List AObj}
   (hdec : decB L.B L.h0 (tr ++ [x]) = some b) (two : Two L.c.ok L.X W cb Hb ci Hi) (j : L.J s0 tr W cb Hb) (hn : ∀ k, ci.own k → L.w.heap.size ≤ k) (hvs : vs.size = (embP A x).length) (hxw : TV.wfs (embP A x)) (hv : VRs W ci ((embP A x).map TV.pv) (fun i => vs[i]?)) :
   YieldAt (Wd none) 0 P L.l vs W fun e w' => e = .returned (.bool b) ∧ ∃ cb' Hb', Foreign (fun k => cb.own k ∨ L.X k) W w' ∧ Grows W cb.own cb'.own ∧ cb'.ok = cb.ok ∧ Ab.Good w' cb' Hb' [] ∧ ∃ s', L.J s' (tr ++ [x]) w' cb' Hb' := by
 simp only [decB, Option.map_eq_some_iff] at hdec
 obtain ⟨st', hst', hb⟩ := hdec
 obtain ⟨h, hr1, hB1⟩ := z1fv hst'
 have es := j.run
 rw [hr1] at es
 cases es
 have j4 := j.l
 have j5 := j.H
 have j6 := j.wf
 simp only [jmpOf, Option.isNone_none, if_true] at j4
 simp only [zjv] at j5 j6
 have hcbT : cb.T = [] := List.eq_nil_of_length_eq_zero two.b.tl
 have hcbp : cb.pn = L.q := j.ext.pn
 have hlW : L.l < W.heap.size := (Array.getElem?_eq_some_iff.1 j4).1
 have hlm : some L.l ∉ cb.m := two.xb L.l (.inl rfl)
 have hgl : gb ≤ L.l := Nat.le_trans hL.gbn hL.ll
 have hy := run_yield (P := P) (args := vs) j4 (by rw [hvs]; exact hL.len x)
 refine ⟨L.fid, _, L.assign, L.body, hy, roundIn_of_wpIn trivial ?_⟩
 have base : RelT W cb ⟨L.n, L.sl, (Sh.st h).H, Sh.pn⟩ { tmps := L.tmps, defers := [] } := by
   refine ⟨by rw [hcbp, hL.q], ?_, ?_⟩
   · have := two.b; rw [j5] at this; exact this
   · refine Lp.slots hL hcbT j.ext rfl fun k e hk hm ho => ?_
     rw [two.bok]
     exact ⟨ho, fun h => h.elim (fun h => absurd hk (Nat.not_lt.2 (hn k h))) fun h => absurd hk (Nat.not_lt.2 (hL.Xge h))⟩
 have hvb : VRs W cb ((embP A x).map TV.pv) (fun i => vs.toList[i]?) := by
   have pu := (zfo _ hxw (hL.pu x)).1
   rw [z4n] at pu
   refine VRs.transfer (c := ci) (fun a n hf => ?_) _ pu (by simpa using hv)
   rcases hf with hf | ⟨k1, k2, k3, k4, k5⟩
   · exact .inl hf
   · rw [two.iok] at k5
     refine .inr ⟨k1, k2, fun h => k5.2 (.inl h), fun i k h => by rw [hcbT] at h; simp at h, ?_⟩
     rw [two.bok]
     exact ⟨k5.1, fun h => h.elim k3 fun h => k5.2 (.inr h)⟩
 have start := z1im L.ps.toList (embP A x) vs.toList base hvb (by simpa using hvs)
 have etm : (L.ps.toList.zip vs.toList).foldl (fun t x => t.setIfInBounds x.1 x.2) L.tmps = (L.ps.zip vs).foldl (fun tmps (t, a) => tmps.setIfInBounds t a) L.tmps := by
   rw [← Array.foldl_toList, Array.toList_zip]
 rw [etm] at start
 have wf0 : (putsT L.ps.toList (embP A x) ⟨L.n, L.sl, (Sh.st h).H, Sh.pn⟩).wf := z1ai _ _ _ ⟨hL.slwf, j6⟩ hxw
 have hB2 := hL.hB h x
 rw [hB1] at hB2
 unfold z11p at hB2
 have t1 := zsw hL.hV L.assign g1 hL.ok1 hB2
 refine t1 cb _ W _ start wf0 (fun e c' a' w' σ' hQ hw' hr' hx' _ => ?_) (some L.l) ⟨hlm, _, j4⟩
 rw [(z1k1 _ _ _).1] at hx'
 simp only at hx'
 rw [hL.q] at hx'
 cases e with
 | normal =>
   have hl' : w'.heap[L.l]? = some (.loop (L.rec' .ready none)) := (hx'.blocks L.l hlW hlm).trans j4
   have hlm' : some L.l ∉ c'.m := fun h => (hx'.new L.l h).elim hlm fun h' => absurd hlW (Nat.not_lt.2 h')
   have hbr := run_beginRound (P := P) hl' rfl
   refine ⟨_, hbr, ?_⟩
   obtain ⟨w2, hw2⟩ : ∃ w2, w'.putObj L.l (.loop { L.rec' .ready none with state := .busy }) = w2 := ⟨_, rfl⟩
   rw [hw2]
   have hl2 : w2.heap[L.l]? = some (.loop { L.rec' .ready none with state := .busy }) := by rw [← hw2]; exact World.putObj_heap_same (Array.getElem?_eq_some_iff.1 hl').1
   have hr2 : RelT w2 c' σ' a' := by rw [← hw2]; exact z1p5 _ hr' hl' hlm' hgl
   have hl2lt : L.l < w2.heap.size := (Array.getElem?_eq_some_iff.1 hl2).1
   have ep : σ'.p = L.q := by rw [← hr'.1, hx'.pn]; exact hcbp
   have t2 := zsw hL.hV L.body g2 hL.ok2 hQ
   refine t2 c' a' w2 _ hr2 hw' (fun e3 c2 a2 w3 σ2 hQ2 hw3 hr3 hx3 _ => ?_) (some L.l) ⟨hlm', _, hl2⟩
   rw [ep] at hx3
   have ep2 : σ2.p = L.q := by rw [← hr3.1, hx3.pn, hr2.1]; exact ep
   have hl3 : w3.heap[L.l]? = some (.loop { L.rec' .ready none with state := .busy }) := (hx3.blocks L.l hl2lt hlm').trans hl2
   have fin : ∀ (s' : LT Sh.codes ⊕ X.T) (τ : TS), Wk σ2 τ → τ.H = zjv s' → st' = s' → s'.isLeft = (jmpOf s').isNone → ∃ v w4, (Instr.endRound L.l (jmpOf s')).run P w3 = .ok v w4 ∧ (Ending.returned v = Ending.returned (.bool b) ∧ ∃ cb' Hb', Foreign (fun k => cb.own k ∨ L.X k) W w4 ∧ Grows W cb.own cb'.own ∧ cb'.ok = cb.ok ∧ Ab.Good w4 cb' Hb' [] ∧ ∃ s', L.J s' (tr ++ [x]) w4 cb' Hb') := by
     intro s' τ hτ hτH hs' hjl
     subst hs'
     obtain ⟨v, w4, k1, k2, cb', Hb', k3, k4, k5, k6, k7⟩ := Lp.fin hL two j hst' hb hx' hw2 hx3 hl3 hr3 ep2 hτ hτH hjl
     exact ⟨v, w4, k1, k2, cb', Hb', k3, k4, k5, k6, _, k7⟩
   cases e3 with
   | normal =>
     simp only at hQ2
     obtain ⟨h', k1, k2⟩ := z0a Sh _ σ2 _ st' hw3 hQ2
     cases k1
     exact fin (.inl h') _ k2 rfl rfl rfl
   | ret =>
     simp only at hQ2
     obtain ⟨y, k1, k2, k3⟩ := hL.hX.close _ _ σ2 _ st' hw3 hQ2
     cases k1
     have hj : jmpOf (Sh := Sh) (X := X) (.inr y) = some .ret := by simp only [jmpOf, k2, zps]
     have := fin (.inr y) _ k3 rfl rfl (by rw [hj]; rfl)
     rw [hj] at this; exact this
   | exit id =>
     simp only at hQ2
     obtain ⟨y, k1, k2, k3⟩ := hL.hX.close _ _ σ2 _ st' hw3 hQ2
     cases k1
     have hj : jmpOf (Sh := Sh) (X := X) (.inr y) = some (.exit id) := by simp only [jmpOf, k2, zps]
     have := fin (.inr y) _ k3 rfl rfl (by rw [hj]; rfl)
     rw [hj] at this; exact this
   | goto t => cases hQ2
   | panic ch => cases hQ2
   | outgrown => cases hQ2
 | exit id => cases hQ
 | goto t => cases hQ
 | ret => cases hQ
 | panic ch => cases hQ
 | outgrown => cases hQ
def Lp.host {A : List Pat} {Sh : Shp} {X : XS} {P : Program} {V : Env} {g1 g2 : HT} {L : Lp A Sh X} (hL : L.OK P V g1 g2) : Host P (LT (z0b A)) where
 l := L.l
 K0 := L.c.ok
 X := L.X
 N := fun k => L.w.heap.size ≤ k
 n0 := L.w.heap.size
 emb := embP A
 dec := decB L.B L.h0
 J := fun tr W cb Hb => ∃ s, L.J s tr W cb Hb
 new := fun k h => h
 gbn := hL.gbn
 stay := fun tr W cb Hb W' ok' hJ hn0 fo hk _ _ => by
   obtain ⟨s, j⟩ := hJ
   exact ⟨s, Lp.stay j hn0 fo hk⟩
 yield := fun tr x b vs W cb Hb ci Hi hdec two hJ _ hn hvs hxw hv => by
   obtain ⟨s, j⟩ := hJ
   exact Lp.yield hL hdec two j hn hvs hxw hv
theorem z1na {P : Program} {V : Env} (hV : EnvsOK P V) {A C : List Pat} {f : FuncId} {F : (List (LT (z0b A)) → Option Bool) → LT (z0b C) → Option (List (LT (z0b A)))} (hseq : SeqOK P f A C F) {g : Operand} {ps : Array Tmp} {assign body : Code} {g1 g2 : HT} {Sh : Shp} {X : XS} {σ0 : TS} {h0 : LT Sh.codes} {cp : LT (z0b C)}
   {B : LT Sh.codes → LT (z0b A) → Option (LT Sh.codes ⊕ X.T)} (hok1 : HOK P assign g1) (hok2 : HOK P body g2) (hX : X.OK) (hw0 : σ0.wf) (hfn : σ0.eval g = .fn f (capsP C cp)) (hcp : zc1 (capsP C cp) = true) (hlow : lowTs Sh.pn (σ0.slots.map (·.2)) = true)
   (hH : σ0.H = (Sh.st h0).H) (hp : σ0.p ≤ Sh.pn) (hlen : ∀ x, (embP A x).length = ps.size) (hpu : ∀ x, zc1 (embP A x) = true) (hB : ∀ h x, z11p P V A ps assign body g1 g2 Sh X σ0.n σ0.slots h x = B h x) {tr : List (LT (z0b A))} {st : LT Sh.codes ⊕ X.T}
   (h1 : F (decB B h0) cp = some tr) (h2 : runB B h0 tr = some st) : TAW P (.rangeFunc g ps assign body) σ0 (z1mo σ0 Sh X st) := by
 intro c a w Q' hr hw hK ro hro
 obtain ⟨cv, e1, e2, e3⟩ := zzr (xs := #[]) (Y := σ0.flat.H) hr.2 hfn
 simp only [List.map_nil, List.nil_append, Array.map_empty, Array.empty_append, List.nil_append] at e2 e3
 have hT : c.T = [] := hr.noT
 have g0 : Ab.Good w c σ0.flat.H [] := hr.2.1
 refine wpIn_rangeFunc fun fid _ => ?_
 obtain ⟨l, ms, dfr, w1, hent, hl1, hnd, hms, hll, hsz1, hos, htape, hout, hkeep⟩ := z1o0 (P := P) hro fid a.tmps ps assign body
 obtain ⟨L, hLe⟩ : ∃ L : Lp A Sh X, L = ⟨w, c, Sh.pn, ms, l, fid, a.tmps, ps, assign, body, dfr, B, h0, σ0.n, σ0.slots⟩ := ⟨_, rfl⟩
 have hL : L.OK P V g1 g2 := by
   rw [hLe]
   exact ⟨hV, hok1, hok2, hX, hT, rfl, hw0.slots, hlow, hlen, hpu, hB, ⟨_, hr.2.2⟩, g0.gl.sz, fun D hD => ⟨(hms D hD).1, (hms D hD).2.1⟩, hll, g0.okm⟩
 have Lw : L.w = w := by rw [hLe]
 have Lc : L.c = c := by rw [hLe]
 have Lq : L.q = Sh.pn := by rw [hLe]
 have Ll : L.l = l := by rw [hLe]
 have Lms : L.ms = ms := by rw [hLe]
 have Ltm : L.tmps = a.tmps := by rw [hLe]
 have LB : L.B = B := by rw [hLe]
 have Lh : L.h0 = h0 := by rw [hLe]
 have Ln : L.n = σ0.n := by rw [hLe]
 have Lsl : L.sl = σ0.slots := by rw [hLe]
 have hgl : gb ≤ l := Nat.le_trans g0.gl.sz hll
 have hpq : c.pn ≤ L.q := by rw [hr.1, Lq]; exact hp
 have hcqm : L.cq.m = c.m := by rw [← Lc]; rfl
 have hcqo : L.cq.ok = c.ok := by rw [← Lc]; rfl
 have gq : Ab.Good w L.cq σ0.flat.H [] := by unfold Lp.cq; rw [Lc]; exact z1s4 g0 hpq
 have hXge : ∀ k, L.X k → w.heap.size ≤ k := fun k hk => by have := hL.Xge hk; rwa [Lw] at this
 have hXlt : ∀ k, L.X k → k < w1.heap.size := fun k hk => by
   unfold Lp.X at hk
   rw [Ll, Lms] at hk
   exact hk.elim (fun e => by rw [e]; exact (Array.getElem?_eq_some_iff.1 hl1).1) fun h => (Array.getElem?_eq_some_iff.1 (hms k h).2.2).1
 have hl1' : w1.heap[l]? = some (.loop (L.rec' .ready none)) := by rw [hLe]; exact hl1
 have x01 : ExtP L.q w L.cq w1 L.cq := ⟨hos, htape, hout, hsz1, fun k h => .inl h, fun k hk _ => hkeep k hk, rfl, rfl, fun _ _ _ h => h, fun k vs e fr h => ⟨vs, fr, (hkeep k (Array.getElem?_eq_some_iff.1 h).1).trans h, rfl⟩⟩
 -- the two owners at the beginning
 obtain ⟨cb, hcb⟩ : ∃ cb : Cx, cb = L.cq.sans L.X := ⟨_, rfl⟩
 obtain ⟨ci, hci⟩ : ∃ ci : Cx, ci = { m := [], T := [], ok := fun k e => c.ok k e ∧ ¬ (cb.own k ∨ L.X k), pn := 0 } := ⟨_, rfl⟩
 have hcbm : cb.m = c.m := by rw [hcb]; exact hcqm
 have hcim : ci.m = [] := by rw [hci]
 have gb1 : Ab.Good w1 cb σ0.flat.H [] := by
   rw [hcb]
   exact z17q (M := fun _ => False) gq ⟨fun _ _ h => h, fun k e _ => .inl id, fun k h => h.elim, fun k h => h.elim⟩ ⟨hos, htape, hout, hsz1, fun k hk _ => hkeep k hk⟩ (fun k hk => .inr (hXge k hk)) hXlt
 have hown : ∀ k, cb.own k → k < w.heap.size := fun k hk => gq.mlt (by unfold Cx.own at hk; rw [hcbm, ← hcqm] at hk; exact hk)
 have two0 : Two c.ok L.X w1 cb σ0.flat.H ci [] := by
   refine ⟨gb1, ?_, ?_, by rw [hci], fun k e e' h he => g0.okm k e e' h he, fun k _ h => ?_, fun k hk hb => absurd (hown k hb) (Nat.not_lt.2 (hXge k hk)), fun k hk h => ?_, hXlt, fun k hk => Nat.le_trans g0.gl.sz (hXge k hk)⟩
   · rw [hci]
     refine ⟨rfl, fun i j k h => by simp at h, fun b o h => by simp at h, rfl, fun i h => by simp at h, fun i h => by simp at h, fun i k j h => by simp at h, fun i i' k j j' h => by simp at h, fun k e hk => ⟨g0.okn k e (Nat.le_trans hsz1 hk), fun h => h.elim (fun h => absurd (hown k h) (Nat.not_lt.2 (Nat.le_trans hsz1 hk))) fun h => absurd (hXlt k h) (Nat.not_lt.2 hk)⟩,
       fun k e e' h he => ⟨g0.okm k e e' h.1 he, h.2⟩, fun i k j h => by simp at h, fun b k _ h => by simp at h, ⟨Nat.le_trans g0.gl.sz hsz1, fun k h => by simp at h, fun i k j h => by simp at h, gb1.gl.var⟩⟩
   · rw [hcb]
     funext k e
     simp only [Cx.sans, hcqo, Cx.own, hcim, List.not_mem_nil, false_or]
   · unfold Cx.own at h; rw [hcim] at h; cases h
   · unfold Cx.own at h; rw [hcim] at h; cases h
 have j0 : L.J (.inl h0) [] w1 cb σ0.flat.H := by
   refine ⟨by rw [Lh]; rfl, ?_, fun D hD => (hms D (by rw [← Lms]; exact hD)).2.2, by simp only [jmpOf, Option.isNone_none, if_true]; rw [Ll]; exact hl1', by simp only [zjv, ← hH]; rfl, fun o ho => hw0.H o (by rw [hH]; exact ho), rfl⟩
   have : ({ cb with ok := L.c.ok } : Cx) = L.cq := by rw [hcb, Lc, ← hcqo]; rfl
   rw [this, Lw]; exact x01
 have hcw : TV.wfs (capsP C cp) := by
   have := z0u hw0 g
   rw [hfn] at this
   simpa only [TV.wf] using this
 have hv0 : VRs w1 ci ((capsP C cp).map TV.pv) (fun i => cv[i]?) := by
   have pu := (zfo _ hcw hcp).1
   rw [z4n] at pu
   refine VRs.psees (q := 0) ?_ _ (z4b 0 _ pu) (fun _ _ _ e => e) e3
   refine ⟨fun b k hb => absurd hb (Nat.not_lt_zero _), fun a n hf => ?_, fun a n i v hf hi hv => ?_, fun b k vs e fr hb => absurd hb (Nat.not_lt_zero _)⟩
   · rcases hf with hf | ⟨k1, k2, k3, k4, k5⟩
     · exact .inl hf
     · rw [hci]
       exact .inr ⟨k1, Nat.lt_of_lt_of_le k2 hsz1, by simp, fun i k h => by simp at h, k5, fun h => h.elim (fun h => k3 (by unfold Cx.own at h; rw [hcbm] at h; exact h)) fun h => absurd k2 (Nat.not_lt.2 (hXge _ h))⟩
   · rcases hf with hf | ⟨k1, k2, k3, k4, k5⟩
     · omega
     · have : w1.cell? ⟨a.block, a.off + i, none⟩ = w.cell? ⟨a.block, a.off + i, none⟩ := z6h (hkeep _ k2)
       rw [this]; exact hv
 have hcall : Calls P f (#[.func (.yield l) #[] #[]] ++ cv) w1 fun e w' => ∃ v, e = .returned v ∧ ∃ cb' Hb' ci' Hi', Two c.ok L.X w' cb' Hb' ci' Hi' ∧ ∃ s, L.J s tr w' cb' Hb' := by
   have := hseq.calls (Lp.host hL) cp tr rfl (by show F (decB L.B L.h0) cp = some tr; rw [LB, Lh]; exact h1) hcw w1 cb σ0.flat.H ci cv (by show Two L.c.ok L.X w1 cb σ0.flat.H ci []; rw [Lc]; exact two0) (by rw [hci]) ⟨_, j0⟩ (by show L.w.heap.size ≤ _; rw [Lw]; exact hsz1) e2 hv0
   rw [← Ll, ← Lc]
   exact this
 have hres : (resolve a.eval (rangeCall g l) 0).run P w1 = .ok { target := .fn (.func f) cv, args := #[.func (.yield l) #[] #[]] } w1 := by
   simp only [resolve, e1]
   simp [go_sem]
 have hinv : (invoke (.fn (.func f) cv) #[.func (.yield l) #[] #[]]).run P w1 = .ok (.enter f (#[.func (.yield l) #[] #[]] ++ cv)) w1 := by
   simp [invoke, go_sem, z17t hseq.can]
 have hdep : (Wd ro).depth.isSome = true → 1 ≤ 0 := fun h => by simp [Wd, Fence.wide] at h
 refine ⟨l, ms.map mark, w1, { target := .fn (.func f) cv, args := #[.func (.yield l) #[] #[]] }, w1, f, #[.func (.yield l) #[] #[]] ++ cv, w1, hent, ?_, ?_, ?_, ?_, ?_⟩
 · exact hres
 · exact fun _ _ => trivial
 · exact hinv
 · exact hdep
 · refine z1gs (hcall.mono ?_)
   rintro e w3 ⟨v, rfl, cb', Hb', ci', Hi', two', s, j⟩
   have es := j.run
   rw [LB, Lh, h2] at es
   cases es
   have j4 := j.l
   rw [Ll] at j4
   have hlm : some l ∉ cb'.m := by rw [← Ll]; exact two'.xb L.l (.inl rfl)
   have hend := run_endLoop (P := P) j4 (by simp only [Lp.rec']; split <;> simp)
   refine ⟨_, _, hend, ?_⟩
   obtain ⟨w4, hw4⟩ : ∃ w4, w3.putObj l (.loop { L.rec' (if (jmpOf st).isNone then .ready else .done) (jmpOf st) with state := .exhausted }) = w4 := ⟨_, rfl⟩
   rw [hw4]
   have hcb'T : cb'.T = [] := List.eq_nil_of_length_eq_zero two'.b.tl
   have gx : Ab.Good w4 { cb' with ok := c.ok } Hb' [] := by
     have := (noncell (o := .loop (L.rec' (if (jmpOf st).isNone then .ready else .done) (jmpOf st))) (.loop { L.rec' (if (jmpOf st).isNone then .ready else .done) (jmpOf st) with state := .exhausted }) two'.b (zwl j4) hlm hgl).2
     rw [hw4] at this
     exact (z1jz (ok' := c.ok) this (fun k e h => by rw [two'.bok] at h; exact h.1) fun k e e' h he => g0.okm k e e' h he).1
   have jx := j.ext
   rw [Lw, Lc] at jx
   have x4 : ExtP L.q w L.cq w4 { cb' with ok := c.ok } := by rw [← hw4]; exact z18i jx hll
   have gf := z1l0 (q := L.q) g0 hpq (by rw [show ({ c with pn := L.q } : Cx) = L.cq by unfold Lp.cq; rw [Lc]]; exact x4) gx
   have relf : RelT w4 { cb' with ok := c.ok, pn := c.pn } ⟨σ0.n, σ0.slots, zjv st, σ0.p⟩ { a with defers := ms.map mark ++ a.defers } := by
     refine ⟨hr.1, ?_, ?_⟩
     · rw [j.H] at gf; exact gf
     · have := Lp.slots (H' := (zjv st).map TOb.flat) hL (c2 := { cb' with ok := c.ok, pn := c.pn }) (c' := { cb' with ok := c.ok }) hcb'T (by rw [Lw]; exact x4) rfl fun k e _ _ ho => by rw [Lc] at ho; exact ho
       rw [Ln, Lsl, Ltm] at this
       exact this
   have xf : ExtP σ0.p w c w4 { cb' with ok := c.ok, pn := c.pn } := ⟨x4.os, x4.tape, x4.output, x4.size, fun k h => by rw [← hcqm]; exact x4.new k h, fun k hk hm => x4.blocks k hk (by rw [hcqm]; exact hm), rfl, rfl, fun b k hb h => x4.pin b k (Nat.lt_of_lt_of_le hb (by rw [Lq]; exact hp)) (by rw [hcqm]; exact h), x4.room⟩
   have mf : Mk w w4 { cb' with ok := c.ok, pn := c.pn } a.defers (ms.map mark ++ a.defers) := ⟨ms, rfl, hnd, fun D hD => ⟨(hms D hD).1, by rw [← hw4, World.putObj_heap_other (hms D hD).2.1]; exact j.ms D (by rw [Lms]; exact hD), two'.xb D (.inr (by rw [Lms]; exact hD))⟩⟩
   have wff : TS.wf ⟨σ0.n, σ0.slots, zjv st, σ0.p⟩ := ⟨hw0.slots, j.wf⟩
   have j7 := j.lft
   cases st with
   | inl h =>
     simp only [jmpOf, Lp.rec']
     exact hK .normal _ _ w4 _ ⟨rfl, rfl⟩ wff relf xf mf
   | inr y =>
     cases hj : (X.at' y).1 with
     | ret =>
       simp only [jmpOf, hj, zps, Lp.rec']
       exact wpIn_ret (hK .ret _ _ w4 _ ⟨hj.symm, rfl⟩ wff relf xf mf)
     | exit id =>
       simp only [jmpOf, hj, zps, Lp.rec']
       exact wpIn_exit (hK (.exit id) _ _ w4 _ ⟨hj.symm, rfl⟩ wff relf xf mf)
     | normal => simp [jmpOf, hj, zps] at j7
     | goto t => simp [jmpOf, hj, zps] at j7
     | panic ch => simp [jmpOf, hj, zps] at j7
     | outgrown => simp [jmpOf, hj, zps] at j7
theorem z1n7 {P : Program} {V : Env} (hV : EnvsOK P V) {A : List Pat} {ps : Array Tmp} {assign body : Code} {g1 g2 : HT} {Sh : Shp} {X : XS} {n : Nat} {sl : List (Nat × TV)} {h : LT Sh.codes} {x : LT (z0b A)} {s : LT Sh.codes ⊕ X.T} (hok1 : HOK P assign g1) (hok2 : HOK P body g2) (hX : X.OK)
   (hsl : ∀ z, z ∈ sl → z.2.wf) (hH : ∀ o, o ∈ (Sh.st h).H → o.wf) (hx : TV.wfs (embP A x)) (hh : z11p P V A ps assign body g1 g2 Sh X n sl h x = some s) : ∀ o, o ∈ zjv s → o.wf := by
 unfold z11p at hh
 have w0 : TS.wf ⟨n, sl, (Sh.st h).H, Sh.pn⟩ := ⟨hsl, hH⟩
 obtain ⟨e, σ1, h1, h2⟩ := zxb hV assign g1 hok1 (z1ai _ _ _ w0 hx) hh
 cases e with
 | normal =>
   simp only at h2
   obtain ⟨e2, σ2, h3, h4⟩ := zxb hV body g2 hok2 h1 h2
   cases e2 with
   | normal =>
     simp only at h4
     obtain ⟨h', k1, k2⟩ := z0a Sh _ σ2 _ s h3 h4
     cases k1
     exact k2.1.H
   | ret =>
     simp only at h4
     obtain ⟨y, k1, k2, k3⟩ := hX.close _ _ σ2 _ s h3 h4
     cases k1
     exact k3.1.H
   | exit id =>
     simp only at h4
     obtain ⟨y, k1, k2, k3⟩ := hX.close _ _ σ2 _ s h3 h4
     cases k1
     exact k3.1.H
   | goto t => cases h4
   | panic ch => cases h4
   | outgrown => cases h4
 | exit id => cases h2
 | goto t => cases h2
 | ret => cases h2
 | panic ch => cases h2
 | outgrown => cases h2
def z12l {A C : List Pat} (S : XE) (Sh : Shp) (X : XS) (F : (List (LT (z0b A)) → Option Bool) → LT (z0b C) → Option (List (LT (z0b A)))) (cp : S.T → LT (z0b C)) (h0 : S.T → LT Sh.codes) (B : S.T → LT Sh.codes → LT (z0b A) → Option (LT Sh.codes ⊕ X.T)) :
   {R : Type} → TS → (Exit → TS → Option R) → Option R :=
 fun σ k => S.close σ fun s => ((F (decB (B s) (h0 s)) (cp s)).bind fun tr => runB (B s) (h0 s) tr).bind fun st =>
   Sum.elim (fun h => k .normal ⟨(S.st s).n, (S.st s).slots, (Sh.st h).H, (S.st s).p⟩) (fun y => X.open' y fun e τ => k e ⟨(S.st s).n, (S.st s).slots, τ.H, (S.st s).p⟩) st
theorem z1jc {P : Program} {V : Env} (hV : EnvsOK P V) {A C : List Pat} {f : FuncId} {F : (List (LT (z0b A)) → Option Bool) → LT (z0b C) → Option (List (LT (z0b A)))} (hseq : SeqOK P f A C F) {g : Operand} {ps : Array Tmp} {assign body : Code} {g1 g2 : HT} {S : XE} {Sh : Shp} {X : XS} {cp : S.T → LT (z0b C)} {h0 : S.T → LT Sh.codes}
   (hok1 : HOK P assign g1) (hok2 : HOK P body g2) (hS : S.OK) (hX : X.OK) (hfn : ∀ s, (S.st s).eval g = .fn f (capsP C (cp s))) (hcp : ∀ s, zc1 (capsP C (cp s)) = true) (hlow : ∀ s, lowTs Sh.pn ((S.st s).slots.map (·.2)) = true)
   (hH : ∀ s, (S.st s).H = (Sh.st (h0 s)).H) (hp : ∀ s, Nat.ble (S.st s).p Sh.pn = true) (hlen : ∀ x, (embP A x).length = ps.size) (hpu : ∀ x, zc1 (embP A x) = true)
   (B : S.T → LT Sh.codes → LT (z0b A) → Option (LT Sh.codes ⊕ X.T)) (hB : ∀ s h x, z11p P V A ps assign body g1 g2 Sh X (S.st s).n (S.st s).slots h x = B s h x) : SoundD P (.rangeFunc g ps assign body) (z12l S Sh X F cp h0 B) := by
 have open1 : ∀ {R : Type} (s : S.T) (st : LT Sh.codes ⊕ X.T) (k : Exit → TS → Option R) (r : R), Sum.elim (fun h => k .normal ⟨(S.st s).n, (S.st s).slots, (Sh.st h).H, (S.st s).p⟩) (fun y => X.open' y fun e τ => k e ⟨(S.st s).n, (S.st s).slots, τ.H, (S.st s).p⟩) st = some r →
     ∀ e σ', z1mo (S.st s) Sh X st e σ' → k e σ' = some r := by
   intro R s st k r hh e σ' hq
   cases st with
   | inl h => obtain ⟨rfl, rfl⟩ := hq; exact hh
   | inr y =>
     obtain ⟨rfl, rfl⟩ := hq
     simp only [Sum.elim_inr] at hh
     rw [hX.open'] at hh
     exact hh
 refine ⟨fun R σ k r hh => ?_, fun R σ k r hw hh => ?_⟩
 · intro c a w Q' hr hw hK ro hro
   simp only [z12l] at hh
   obtain ⟨s, h1, h2⟩ := hS R σ _ r hw hh
   rw [Option.bind_eq_some_iff] at h1
   obtain ⟨st, h4, h6⟩ := h1
   rw [Option.bind_eq_some_iff] at h4
   obtain ⟨tr, h3, h5⟩ := h4
   have := z1na hV hseq (g := g) (ps := ps) hok1 hok2 hX h2.1 (hfn s) (hcp s) (hlow s) (hH s) (Nat.le_of_ble_eq_true (hp s)) hlen hpu (hB s) h3 h5
   exact TAW.wk h2 (this.mono fun e σ' hq => open1 s st k r h6 e σ' hq) c a w Q' hr hw hK ro hro
 · simp only [z12l] at hh
   obtain ⟨s, h1, h2⟩ := hS R σ _ r hw hh
   rw [Option.bind_eq_some_iff] at h1
   obtain ⟨st, h4, h6⟩ := h1
   rw [Option.bind_eq_some_iff] at h4
   obtain ⟨tr, h3, h5⟩ := h4
   have hcw : TV.wfs (capsP C (cp s)) := by
     have := z0u h2.1 g
     rw [hfn s] at this
     simpa only [TV.wf] using this
   have htr := hseq.wf _ _ _ h3 hcw
   have key : ∀ (tr : List (LT (z0b A))) (h : LT Sh.codes), trWf A tr → (∀ o, o ∈ (Sh.st h).H → o.wf) → runB (B s) h tr = some st → ∀ o, o ∈ zjv st → o.wf := by
     intro tr
     induction tr with
     | nil => intro h _ hh hr; simp only [runB, Option.some.injEq] at hr; subst hr; exact hh
     | cons x tr ih =>
       intro h ht hh hr
       simp only [runB] at hr
       rw [Option.bind_eq_some_iff] at hr
       obtain ⟨y, k1, k2⟩ := hr
       rw [← hB] at k1
       have hy := z1n7 hV hok1 hok2 hX h2.1.slots hh (ht x (by simp)) k1
       cases y with
       | inl h' => exact ih h' (fun e he => ht e (by simp [he])) hy k2
       | inr y => cases tr <;> simp at k2; subst k2; exact hy
   have hwst := key tr (h0 s) htr (fun o ho => h2.1.H o (by rw [hH]; exact ho)) h5
   cases st with
   | inl h =>
     have w1 : TS.wf ⟨(S.st s).n, (S.st s).slots, (Sh.st h).H, (S.st s).p⟩ := ⟨h2.1.slots, hwst⟩
     exact ⟨_, _, w1, h6⟩
   | inr y =>
     simp only [Sum.elim_inr] at h6
     rw [hX.open'] at h6
     have w1 : TS.wf ⟨(S.st s).n, (S.st s).slots, (X.at' y).2.H, (S.st s).p⟩ := ⟨h2.1.slots, hwst⟩
     exact ⟨_, _, w1, h6⟩
end Go.Tm
set_option linter.unusedSimpArgs false
set_option linter.unusedVariables false
namespace Go.Tm
def zpr {E : Type} (dec : List E → Option Bool) : List E → List E → Option (List E)
 | tr, [] => some tr
 | tr, x :: xs => (dec (tr ++ [x])).bind fun b => bif b then zpr dec (tr ++ [x]) xs else some (tr ++ [x])
def ztf {T E Y : Type} (B : T → E → Option (T ⊕ Y)) : T → List E → Option (T ⊕ Y)
 | h, [] => some (.inl h)
 | h, x :: xs => (B h x).bind fun s => match s with
   | .inl h' => ztf B h' xs
   | .inr y => some (.inr y)
theorem z1a2 {T E Y : Type} {B : T → E → Option (T ⊕ Y)} : ∀ {tr : List E} {h h' : T} {x : E}, runB B h tr = some (.inl h') → runB B h (tr ++ [x]) = B h' x
 | [], h, h', x, hh => by
   simp only [runB, Option.some.injEq, Sum.inl.injEq] at hh
   subst hh
   simp only [List.nil_append, runB]
   cases B h x with
   | none => rfl
   | some s => cases s <;> rfl
 | z :: tr, h, h', x, hh => by
   simp only [runB, List.cons_append] at hh ⊢
   rw [Option.bind_eq_some_iff] at hh
   obtain ⟨s, h1, h2⟩ := hh
   rw [h1]
   cases s with
   | inl s => exact z1a2 h2
   | inr y => cases tr <;> simp at h2
theorem z1a3 {T E Y : Type} {B : T → E → Option (T ⊕ Y)} {h0 : T} : ∀ (xs tr : List E) (h : T), runB B h0 tr = some (.inl h) → (zpr (decB B h0) tr xs).bind (runB B h0) = ztf B h xs
 | [], tr, h, hh => by simp only [zpr, Option.bind_some, ztf]; exact hh
 | x :: xs, tr, h, hh => by
   have e := z1a2 (x := x) hh
   simp only [zpr, ztf, decB]
   rw [e]
   cases hb : B h x with
   | none => rfl
   | some s =>
     cases s with
     | inl h' =>
       simp only [Option.map_some, Sum.isLeft_inl, Option.bind_some, cond_true]
       exact z1a3 xs (tr ++ [x]) h' (by rw [e, hb])
     | inr y =>
       simp only [Option.map_some, Sum.isLeft_inr, Option.bind_some, cond_false]
       rw [e, hb]
theorem z1lg {T E Y : Type} (B : T → E → Option (T ⊕ Y)) (h0 : T) (xs : List E) : (zpr (decB B h0) [] xs).bind (runB B h0) = ztf B h0 xs := z1a3 xs [] h0 rfl
theorem z1pa {E : Type} (l : Nat) (dec : List E → Option Bool) (tr : List E) : onY l dec l tr = dec tr := by simp [onY]
end Go.Tm