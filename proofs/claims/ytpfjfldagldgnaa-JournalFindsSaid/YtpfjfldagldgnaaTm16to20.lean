import Derived.Test.YtpfjfldagldgnaaTm11to15
import Derived.Test.YtpfjfldagldgnaaAb28toR
import Derived.Test.YtpfjfldagldgnaaAbP
import Derived.RangeFuncRecord
set_option linter.unusedSimpArgs false
set_option linter.unusedVariables false
namespace Go.Tm
open Go.Ab
structure EEnt where
 f : FuncId
 ok : TS → List TV → Bool
 run : {R : Type} → TS → List TV → (TS → TV → Option R) → Option R
structure EDoes {R : Type} (P : Program) (f : FuncId) (σ : TS) (args : List TV) (k : TS → TV → Option R) (r : R) : Prop where
 can : zfh P f = true
 wf : ∃ σ' t, k σ' t = some r ∧ σ'.wf ∧ t.wf
 calls : ∀ c w a (vs : Array Value), RelT w c σ a → vs.size = args.length → VRs w c (args.map TV.pv) (fun i => vs[i]?) →
   Calls P f vs w fun ed w' => ∃ v σ' t c', ed = .returned v ∧ k σ' t = some r ∧ σ'.wf ∧ t.wf ∧ σ'.n = σ.n ∧ RelT w' c' σ' a ∧ VR w' c' t.pv v ∧ ExtP σ.p w c w' c'
def zxy (P : Program) (e : EEnt) : Prop := ∀ (R : Type) (σ : TS) (args : List TV) (k : TS → TV → Option R) (r : R), σ.wf → (∀ a, a ∈ args → a.wf) → e.run σ args k = some r → EDoes P e.f σ args k r
structure DEnt where
 f : FuncId
 ok : TS → List TV → Bool
 run : {R : Type} → TS → List TV → (TV → List (Nat × TypeId × Ob) → Nat → List Nat → Option R) → Option R
def usOf (us : List (Nat × TypeId × Ob)) : List (Nat × List PV × TypeId) := us.map fun u => (u.1, u.2.2.cells, u.2.1)
def ztb (us : List (Nat × TypeId × Ob)) (H : List TOb) : List TOb := us.foldl (fun H u => H.set u.1 (.ob u.2.1 u.2.2)) H
theorem z19l : ∀ (us : List (Nat × TypeId × Ob)) (H : List TOb), (ztb us H).map TOb.flat = D.setAll (usOf us) (H.map TOb.flat)
 | [], _ => rfl
 | u :: us, H => by
   show (ztb us (H.set u.1 _)).map TOb.flat = D.setAll (usOf us) ((H.map TOb.flat).set u.1 _)
   rw [z19l us, List.map_set]; rfl
theorem z1f1 : ∀ (us : List (Nat × TypeId × Ob)) {H : List TOb}, (∀ u, u ∈ us → u.2.2.wf) → (∀ o, o ∈ H → o.wf) → ∀ o, o ∈ ztb us H → o.wf
 | [], _, _, h => h
 | u :: us, H, hu, h => by
   show ∀ o, o ∈ ztb us (H.set u.1 _) → o.wf
   refine z1f1 us (fun x hx => hu x (by simp [hx])) fun o ho => ?_
   rcases List.mem_or_eq_of_mem_set ho with ho | rfl
   · exact h o ho
   · exact hu u (by simp)
structure DDoes (P : Program) (f : FuncId) (σ : TS) (args : List TV) (t : TV) (us : List (Nat × TypeId × Ob)) (q : Nat) (L : List Nat) : Prop where
 can : zfh P f = true
 wf : t.wf
 uwf : ∀ u, u ∈ us → u.2.2.wf
 lt : ∀ b, b ∈ us.map (·.1) ++ L → b < σ.H.length + q
 has : ∀ j, j < q → σ.H.length + j ∈ us.map (·.1) ++ L
 calls : ∀ (Y : List AObj) w c (vs : Array Value), (∀ b, b ∈ us.map (·.1) ++ L → b < σ.H.length → Y[b]? = σ.flat.H[b]?) → (∀ j, j < q → Y[σ.H.length + j]? = some .gone) → Ab.Good w c Y [] → vs.size = args.length → VRs w c (args.map TV.pv) (fun i => vs[i]?) →
   Calls P f vs w fun ed w' => ∃ v c', ed = .returned v ∧ VR w' c' t.pv v ∧ Ab.Good w' c' (D.setAll (usOf us) Y) [] ∧ Ext w c w' c'
def zy2 (P : Program) (e : DEnt) : Prop := ∀ (R : Type) (σ : TS) (args : List TV) (k : TV → List (Nat × TypeId × Ob) → Nat → List Nat → Option R) (r : R), σ.wf → (∀ a, a ∈ args → a.wf) → e.run σ args k = some r → ∃ t us q L, k t us q L = some r ∧ DDoes P e.f σ args t us q L
def z17m {R : Type} (D : List DEnt) (f : FuncId) (σ : TS) (args : List TV) (k : TV → List (Nat × TypeId × Ob) → Nat → List Nat → Option R) : Option R :=
 match D with
 | [] => none
 | e :: D => bif Nat.beq e.f f && e.ok σ args then e.run σ args k else z17m D f σ args k
theorem z19w {R : Type} {P : Program} : ∀ {D : List DEnt} {f : FuncId} {σ : TS} {args : List TV} {k : TV → List (Nat × TypeId × Ob) → Nat → List Nat → Option R} {r : R}, (∀ e, e ∈ D → zy2 P e) → σ.wf → (∀ a, a ∈ args → a.wf) → z17m D f σ args k = some r → ∃ t us q L, k t us q L = some r ∧ DDoes P f σ args t us q L
 | [], _, _, _, _, _, _, _, _, h => by simp [z17m] at h
 | e :: D, f, σ, args, k, r, hD, hw, ha, h => by
   simp only [z17m] at h
   cases hc : Nat.beq e.f f && e.ok σ args with
   | true =>
     rw [hc] at h
     simp only [Bool.and_eq_true] at hc
     have := Nat.eq_of_beq_eq_true hc.1
     subst this
     exact hD e (by simp) R σ args k r hw ha h
   | false => rw [hc] at h; exact z19w (fun x hx => hD x (by simp [hx])) hw ha h
structure Env where
 E : List Ent
 F : List EEnt
 D : List DEnt
structure EnvsOK (P : Program) (V : Env) : Prop where
 E : EnvOK P V.E
 F : ∀ e, e ∈ V.F → zxy P e
 D : ∀ e, e ∈ V.D → zy2 P e
theorem z0g (P : Program) : ∀ e, e ∈ ([] : List DEnt) → zy2 P e := fun _ h => by cases h
theorem z1mq {P : Program} {e : DEnt} {F : List DEnt} (h : zy2 P e) (g : ∀ e, e ∈ F → zy2 P e) : ∀ x, x ∈ e :: F → zy2 P x := fun x hx => by
 rcases List.mem_cons.1 hx with rfl | hx
 · exact h
 · exact g x hx
theorem z0h (P : Program) : ∀ e, e ∈ ([] : List EEnt) → zxy P e := fun _ h => by cases h
theorem z0o {P : Program} {e : EEnt} {F : List EEnt} (h : zxy P e) (g : ∀ e, e ∈ F → zxy P e) : ∀ x, x ∈ e :: F → zxy P x := fun x hx => by
 rcases List.mem_cons.1 hx with rfl | hx
 · exact h
 · exact g x hx
def z17x {R : Type} (F : List EEnt) (f : FuncId) (σ : TS) (args : List TV) (k : TS → TV → Option R) : Option R :=
 match F with
 | [] => none
 | e :: F => bif Nat.beq e.f f && e.ok σ args then e.run σ args k else z17x F f σ args k
theorem z19u {R : Type} {P : Program} : ∀ {F : List EEnt} {f : FuncId} {σ : TS} {args : List TV} {k : TS → TV → Option R} {r : R}, (∀ e, e ∈ F → zxy P e) → σ.wf → (∀ a, a ∈ args → a.wf) → z17x F f σ args k = some r → EDoes P f σ args k r
 | [], _, _, _, _, _, _, _, _, h => by simp [z17x] at h
 | e :: F, f, σ, args, k, r, hF, hw, ha, h => by
   simp only [z17x] at h
   cases hc : Nat.beq e.f f && e.ok σ args with
   | true =>
     rw [hc] at h
     simp only [Bool.and_eq_true] at hc
     have := Nat.eq_of_beq_eq_true hc.1
     subst this
     exact hF e (by simp) R σ args k r hw ha h
   | false => rw [hc] at h; exact z19u (fun x hx => hF x (by simp [hx])) hw ha h
def anyOk (E : List Ent) (f : FuncId) (H : List TOb) (args : List TV) : Bool :=
 match E with
 | [] => false
 | e :: E => (Nat.beq e.f f && e.ok H args) || anyOk E f H args
def z1nm : List TV → Bool
 | .os _ _ _ _ _ _ :: _ => true
 | _ => false
theorem z1nw {w : World} {k n : Nat} {vs : Array Value} {e : TypeId} {fr : Nat × Nat} (h : w.heap[k]? = some (.cells vs e fr)) : (w.freeze ⟨k, n, none⟩ 1).heap[k]? = some (.cells vs e (if fr.1 == fr.2 then (n, n + 1) else (min fr.1 n, max fr.2 (n + 1)))) := by
 obtain ⟨hlt, hk⟩ := Array.getElem?_eq_some_iff.1 h
 unfold World.freeze
 rw [if_neg (by decide)]
 show (w.heap.modify k _)[k]? = _
 rw [Array.getElem?_eq_getElem (by rw [Array.size_modify]; exact hlt), Array.getElem_modify_self, hk]
theorem zpi {w : World} {k n k' : Nat} (h : k' ≠ k) : (w.freeze ⟨k, n, none⟩ 1).heap[k']? = w.heap[k']? := by
 unfold World.freeze
 rw [if_neg (by decide)]
 show (w.heap.modify k _)[k']? = _
 by_cases hk : k' < w.heap.size
 · rw [Array.getElem?_eq_getElem (by rw [Array.size_modify]; exact hk), Array.getElem_modify_of_ne (Ne.symm h), Array.getElem?_eq_getElem hk]
 · rw [Array.getElem?_eq_none (by rw [Array.size_modify]; omega), Array.getElem?_eq_none (by omega)]
theorem z1oq {w : World} {k n : Nat} : (w.freeze ⟨k, n, none⟩ 1).heap.size = w.heap.size := by
 unfold World.freeze
 rw [if_neg (by decide)]
 show (w.heap.modify k _).size = _
 rw [Array.size_modify]
theorem z1lv {w : World} {c : Cx} {H : List AObj} {ts : List Bool} (g : Ab.Good w c H ts) {b : Nat} {cs : List PV} {e : TypeId} (hb : H[b]? = some (.row cs e)) {k : Nat} (hk : c.m[b]? = some (some k)) {vs : Array Value} {fr : Nat × Nat} (h2 : w.heap[k]? = some (.cells vs e fr)) (hf : nofz fr vs.size) :
   Ab.Good (w.freeze ⟨k, vs.size, none⟩ 1) c H ts ∧ Ext w c (w.freeze ⟨k, vs.size, none⟩ 1) c := by
 have hmem : some k ∈ c.m := List.mem_iff_getElem?.2 ⟨b, hk⟩
 have hos : (w.freeze ⟨k, vs.size, none⟩ 1).os = w.os ∧ (w.freeze ⟨k, vs.size, none⟩ 1).tape = w.tape ∧ (w.freeze ⟨k, vs.size, none⟩ 1).output = w.output := by
   unfold World.freeze; rw [if_neg (by decide)]; exact ⟨rfl, rfl, rfl⟩
 have x : Ext w c (w.freeze ⟨k, vs.size, none⟩ 1) c :=
   { os := hos.1, tape := hos.2.1, output := hos.2.2, size := by rw [z1oq]; exact Nat.le_refl _
     ids := fun _ _ h => h, new := fun _ h => .inl h
     blocks := fun k' _ hm _ => zpi (fun e => hm (e ▸ hmem))
     cells := fun k' _ hm off' v' _ hv' => by rw [z6h (zpi (fun e : k' = k => hm (e ▸ hmem)))]; exact hv'
     toks := fun i _ j h => .inr ⟨i, j, h, Nat.le_refl _⟩
     stay := fun i k' j _ h => ⟨h, zpi (fun e => (g.tok i k' j h).1 (e ▸ hmem))⟩
     room := fun k' vs' e' fr' h => by
       by_cases hkk : k' = k
       · subst hkk
         rw [h2] at h; cases h
         exact ⟨_, _, z1nw h2, rfl⟩
       · exact ⟨vs', fr', (zpi hkk).trans h, rfl⟩
     tlen := Nat.le_refl _, ok := rfl, pn := rfl }
 refine ⟨⟨g.len, g.inj, ?_, g.tl, g.tal, g.tdead, ?_, g.tinj, fun k e h => g.okn k e (Nat.le_trans x.size h), g.okm, g.okt, g.oko, g.gl.ext x⟩, x⟩
 · intro b' o h
   by_cases hbb : b = b'
   · subst hbb
     rw [hb] at h
     cases h
     obtain ⟨vs0, fr0, k2, kf, k3, kl, k4⟩ := (g.obj b _ hb).row hk
     rw [h2] at k2
     cases k2
     refine .inr ⟨k, vs, _, hk, z1nw h2, ?_, k3, kl, z2d fun i q hq => ?_⟩
     · rcases hf with hf | hf
       · have : (fr.1 == fr.2) = true := by simp [hf]
         rw [this]; exact .inr (Nat.le_refl _)
       · cases hc : fr.1 == fr.2 with
         | true => exact .inr (Nat.le_refl _)
         | false => exact .inr (Nat.le_min.2 ⟨hf, Nat.le_refl _⟩)
     · obtain ⟨u, hu, hr⟩ := z0s k4 hq
       exact ⟨u, hu, hr.ext x⟩
   · have hne : ∀ k', c.m[b']? = some (some k') → k' ≠ k := fun k' h' e => hbb (g.inj b b' k hk (e ▸ h'))
     exact (g.obj b' o h).pass x (fun k' h' => ⟨h', zpi (hne k' h')⟩) id
 · intro i k' j h
   obtain ⟨h1', vs', e', fr', h2', h3'⟩ := g.tok i k' j h
   exact ⟨h1', vs', e', fr', (zpi (fun e : k' = k => h1' (e ▸ hmem))).trans h2', h3'⟩
theorem z1qm {P : Program} {o : Oper} {s e : TypeId} {x : Operand} {ρ : Operand → Value} {k off len cap : Nat} {w : World} {vs : Array Value} {et : TypeId} {fr : Nat × Nat} (ho : o.op = .convert s s x) (hs : P.underlying s = some (.slice e)) (he : P.underlying e = some (.int .u8))
   (hρ : ρ x = .slice (some ⟨k, off, none⟩) len cap) (h2 : w.heap[k]? = some (.cells vs et fr)) : (execOp ρ o).run P w = .ok (.value (ρ x)) (w.freeze ⟨k, vs.size, none⟩ 1) := by
 have hsh : (shape k).run P w = .ok (some (et, vs.size)) w := by simp [shape, Sem.run, World.shape?, h2]
 simp only [execOp, ho, hρ]
 simp [convert, run_underlying hs, run_underlying he, markStringish, Sem.run_bind, hsh, Result.andThen]
theorem z1nf {P : Program} {o : Oper} {σ : TS} {N : TS → Prop} {s : TypeId} {x : Operand} {b : Nat} {r : Rt} {p : List Stp} {u : U} {lo n : Nat} {e : TypeId} {ob : Ob} (ho : o.op = .convert s s x) (hw : σ.wf) (hs : zt0 P s = true) (hx : σ.eval x = .os b r p u lo n) (hn : Nat.blt 0 n = true) (hb : σ.H[b]? = some (.ob e ob)) (hN : N (σ.put o.dst (.os b r p u lo n))) : TStep P o σ N := by
 intro c a w K Q hr hK
 obtain ⟨e0, he1, he2⟩ := z10n hs
 have hfv := hr.2.2.eval x
 rw [z0i hx (by simp)] at hfv
 have hv := hfv
 simp only [TV.pv, VR] at hv
 have hn0 : 0 < n := Nat.blt_eq.mp hn
 rcases hv with ⟨_, h0⟩ | ⟨k, cap, off', h1, h2, _, h3, vs0, e1, fr0, h4, h5⟩
 · omega
 · have hfb : σ.flat.H[b]? = some (.row ob.cells e) := by simp only [TS.flat, List.getElem?_map, hb, Option.map_some, TOb.flat]
   obtain ⟨vs, fr, k2, kf, k3, kl, k4⟩ := (hr.2.1.obj b _ hfb).row h1
   obtain ⟨g', x'⟩ := z1lv hr.2.1 hfb h1 k2 kf
   unfold Oper.wp
   rw [z1qm ho he1 he2 h2 k2]
   have hr' : RelT (w.freeze ⟨k, vs.size, none⟩ 1) c σ a := ⟨hr.1, g', hr.2.2.ext x'⟩
   refine hK c _ _ _ hN (z7j hw _ (by have := z0u hw x; rwa [hx] at this)) (zlp _ hr' ?_) (ext_p hr.noT x') (Act.put_defers' _ _ _)
   exact hfv.ext x'
def sameB (P : Program) (s t : TypeId) (H : List TOb) : TV → Bool
 | .os b _ _ _ _ n => Nat.beq s t && zt0 P s && Nat.blt 0 n && (match H[b]? with
   | some (.ob _ _) => true
   | _ => false)
 | _ => false
def eff1K {R : Type} (P : Program) (V : Env) (own : List Nat) (i : Nat) (o : Oper) (σ : TS) (k : TS → Option R) : Option R :=
 bif zw8 P own i o σ then newK P o σ fun pf e ob => k { σ.put o.dst (pf σ.H.length) with H := σ.H ++ [.ob e ob] } else
 match o.op with
 | .store t x y => match o.dst with
   | none => z1bo P o σ t x y fun b e ob' => k { σ with H := σ.H.set b (.ob e ob') }
   | some _ => none
 | .call { callee := .builtin .append, args := xs, argTypes := ts } =>
   bif z1nm (xs.toList.map σ.eval) then appOK P σ (xs.toList.map σ.eval) ts.toList fun b e u l =>
     k { σ with slots := (match o.dst with | some d => [(d, .os σ.H.length (.row u.canon) [] u 0 (List.length l))] | none => []) ++ butS b σ.slots, H := (σ.H.set b .gone).map (TOb.mv (butF b)) ++ [.ob e (.row u l)] }
   else zng P V.E o σ fun q => k (σ.put o.dst q)
 | .call { callee := .builtin .copy, args := xs, argTypes := ts } => copyK P σ (xs.toList.map σ.eval) ts.toList fun b e ob' => k (TS.put { σ with H := σ.H.set b (.ob e ob') } o.dst .dead)
 | .call { callee := .builtin .clear, args := xs, argTypes := ts } => z1gx P σ (xs.toList.map σ.eval) ts.toList fun b e ob' => k (TS.put { σ with H := σ.H.set b (.ob e ob') } o.dst .dead)
 | .call { callee := .value fo, args := xs, argTypes := _ } => match σ.eval fo with
   | .fn f caps => bif anyOk V.E f σ.H (xs.toList.map σ.eval ++ caps) then zng P V.E o σ fun q => k (σ.put o.dst q)
     else z17x V.F f σ (xs.toList.map σ.eval ++ caps) fun σ' t => k (σ'.put o.dst t)
   | _ => none
 | .convert s t x => bif sameB P s t σ.H (σ.eval x) then k (σ.put o.dst (σ.eval x)) else zng P V.E o σ fun q => k (σ.put o.dst q)
 | _ => zng P V.E o σ fun q => k (σ.put o.dst q)
open Classical in
noncomputable def bothK {R : Type} (x y : Option R) : Option R := if x = y then x else none
noncomputable def nilK {R : Type} (n : Nat) (k : Bool → Option R) : Option R :=
 match n with
 | 0 => bothK (k true) (k false)
 | _ + 1 => k false
theorem z1ey {R : Type} {x y : Option R} {r : R} (h : bothK x y = some r) : x = some r ∧ y = some r := by
 unfold bothK at h
 split at h
 · rename_i e; exact ⟨h, e ▸ h⟩
 · cases h
theorem z1pb {R : Type} {n : Nat} {k : Bool → Option R} {r : R} (h : nilK n k = some r) : k false = some r ∧ (n = 0 → k true = some r) := by
 unfold nilK at h
 split at h
 · exact ⟨(z1ey h).2, fun _ => (z1ey h).1⟩
 · exact ⟨h, fun h => by cases h⟩
def TV.slen : TV → Option Nat
 | .v (.sl _) l => some (List.length l)
 | .fsl _ l => some (List.length l)
 | .osf _ _ _ n => some n
 | .os _ _ _ _ _ n => some n
 | .nil => some 0
 | _ => none
def z1bz : Operand → Bool
 | .const (.slice none 0 0) => true
 | _ => false
def z1ih (P : Program) (o : Oper) (σ : TS) : Option (Nat × Bool) :=
 match o.op with
 | .binOp op t x y _ => bif z1bz y then (match P.underlying t, op with
   | some (.slice _), .eql => (σ.eval x).slen.map fun n => (n, false)
   | some (.slice _), .neq => (σ.eval x).slen.map fun n => (n, true)
   | _, _ => none) else none
 | _ => none
theorem z1no {y : Operand} (h : z1bz y = true) : y = .const (.slice none 0 0) := by
 unfold z1bz at h
 split at h
 · rfl
 · cases h
theorem z1r7 {t : TV} {n : Nat} (h : t.slen = some n) : (∃ cs k, t.pv = .tr n cs k) ∨ ∃ b off sz, t.pv = .sl b off n sz := by
 cases t <;> (try simp only [TV.slen] at h) <;> first | (cases h; done) | skip
 · rename_i u x
   cases u <;> (try simp only [TV.slen] at h) <;> first | (cases h; done) | skip
   cases h
   exact .inl ⟨_, _, rfl⟩
 · cases h; exact .inl ⟨_, _, rfl⟩
 · cases h; exact .inl ⟨_, _, rfl⟩
 · cases h; exact .inl ⟨_, _, rfl⟩
 · cases h; exact .inr ⟨_, _, _, rfl⟩
theorem z1jg {P : Program} {o : Oper} {σ : TS} {n : Nat} {ng : Bool} (h : z1ih P o σ = some (n, ng)) {N : TS → Prop} (hw : σ.wf) (hN : ∀ b : Bool, (n ≠ 0 → b = false) → N (σ.put o.dst (.v .bool (bif ng then !b else b)))) : TStep P o σ N := by
 unfold z1ih at h
 split at h
 · rename_i op t x y yt ho
   cases hy : z1bz y with
   | false => rw [hy] at h; cases h
   | true =>
     rw [hy] at h
     have := z1no hy
     subst this
     simp only [cond_true] at h
     have key : ∀ (e : TypeId), P.underlying t = some (.slice e) → (op = .eql ∧ ng = false) ∨ (op = .neq ∧ ng = true) → (σ.eval x).slen = some n → TStep P o σ N := by
       intro e hu hop hl
       intro c a w K Q hr hK
       refine z1kj (σ := σ.flat) ho hop hu (z0i (t := σ.eval x) rfl (fun hd => by rw [hd] at hl; cases hl)) (z1r7 hl) hr.2 fun b hb => ?_
       refine hK c _ w _ (hN b hb) (z7j hw _ (by simp only [TV.wf, wfU])) (zlp _ hr ?_) (ExtP.refl _ _ _) (Act.put_defers' _ _ _)
       simp only [TV.pv, pvU]
       exact z4f rfl
     split at h
     · rename_i e hu
       cases hl : (σ.eval x).slen with
       | none => rw [hl] at h; cases h
       | some m => rw [hl] at h; cases h; exact key e hu (.inl ⟨rfl, rfl⟩) hl
     · rename_i e hu
       cases hl : (σ.eval x).slen with
       | none => rw [hl] at h; cases h
       | some m => rw [hl] at h; cases h; exact key e hu (.inr ⟨rfl, rfl⟩) hl
     · cases h
 · cases h
def zrs (g : Nat → Fate) (l : List (Nat × TV)) : List (Nat × TV) := l.map fun x => (x.1, x.2.mv g)
theorem z15v (g : Nat → Fate) : ∀ {l : List (Nat × TV)} {t : Nat}, lookT (zrs g l) t = (lookT l t).map (TV.mv g)
 | [], t => rfl
 | (s, v) :: l, t => by
   simp only [zrs, List.map_cons, lookT]
   cases Nat.beq s t with
   | true => rfl
   | false => exact z15v g
theorem z1gr {g : Nat → Fate} {w w' : World} {c c' : Cx} {σ : TS} {a : Act} (hw : σ.wf) (M : MvH g w c w' c') (hs : SlotsR w c σ.flat a.tmps) (H : List TOb) (p : Nat) : SlotsR w' c' (TS.flat ⟨σ.n, zrs g σ.slots, H, p⟩) a.tmps := by
 refine ⟨hs.1, fun t q hlk hlt => ?_⟩
 simp only [TS.flat] at hlk hlt
 rw [zfj, z15v] at hlk
 cases hl : lookT σ.slots t with
 | none => rw [hl] at hlk; cases hlk
 | some v =>
   rw [hl] at hlk
   simp only [Option.map_some, Option.some.injEq] at hlk
   subst hlk
   obtain ⟨z, hz1, hz2⟩ := zp1 hl
   have hwv : v.wf := by rw [← hz2]; exact hw.slots z hz1
   obtain ⟨u, h1, h2⟩ := hs.2 t v.pv (by simp only [TS.flat, zfj, hl, Option.map_some]) hlt
   exact ⟨u, h1, (zca M v hwv).pv u h2⟩
theorem z1bs {g : Nat → Fate} (hg : ∀ b o, g b = .fz o → o.wf) {l : List (Nat × TV)} (h : ∀ x, x ∈ l → x.2.wf) : ∀ x, x ∈ zrs g l → x.2.wf := fun x hx => by
 simp only [zrs, List.mem_map] at hx
 obtain ⟨y, hy, rfl⟩ := hx
 exact (mv_wf hg _ (h y hy)).1
def stRe (σ : TS) (g : Nat → Fate) (hs : List HPat) (ρ : List (Option Nat)) : TS := ⟨σ.n, zrs g σ.slots, newH g σ.H hs ρ, σ.p⟩
theorem z1ax {g : Nat → Fate} (hg : ∀ b o, g b = .fz o → o.wf) {H : List TOb} (hH : ∀ o, o ∈ H → o.wf) {hs : List HPat} {ρ : List (Option Nat)} : ∀ o, o ∈ newH g H hs ρ → o.wf := fun o ho => by
 obtain ⟨j, hj⟩ := List.mem_iff_getElem?.1 ho
 rcases zod hj with ⟨_, rfl | ⟨e, u, rfl⟩⟩ | ⟨b, _, ⟨e, t, h1, rfl⟩ | ⟨e, u, l, h1, rfl⟩ | ⟨_, rfl⟩⟩
 · trivial
 · exact fun x hx => by cases hx
 · have := hH _ (List.mem_of_getElem? h1)
   have m := mv_wf hg t this.1
   exact ⟨m.1, m.2 this.2⟩
 · exact hH _ (List.mem_of_getElem? h1)
 · trivial
theorem z16t {p : Nat} {H : List TOb} (hH : ∀ o, o ∈ H → o.wf) {ρ : List (Option Nat)} {fz : List Nat} : ∀ b o, zay p H ρ fz b = .fz o → o.wf := fun b o h => by
 obtain ⟨_, _, _, e, he⟩ := z18n h
 exact hH _ (List.mem_of_getElem? he)
theorem z18m {σ : TS} (hw : σ.wf) {ρ : List (Option Nat)} {fz : List Nat} {hs : List HPat} : (stRe σ (zay σ.p σ.H ρ fz) hs ρ).wf :=
 ⟨z1bs (z16t hw.H) hw.slots, z1ax (z16t hw.H) hw.H⟩
theorem z1hl {w : World} {c : Cx} {σ : TS} {a : Act} (hr : RelT w c σ a) (hw : σ.wf) {ρ : List (Option Nat)} (hn : zci σ.p ρ = true) (fz : List Nat) {hs : List HPat} (hl : hs.length = ρ.length) :
   RelT w (reCx c ρ) (stRe σ (zay σ.p σ.H ρ fz) hs ρ) a ∧ ExtP σ.p w c w (reCx c ρ) := by
 obtain ⟨h1, h2⟩ := z1m8 hr hw hn fz hl []
 exact ⟨⟨h1.1, h1.2.1, z1gr hw (z1cm hr.good hw.H hr.1 fz) hr.2.2 _ _⟩, h2 w c (ExtP.refl _ _ _)⟩
def memO : List (Option Nat) → Nat → Bool
 | [], _ => false
 | some b' :: r, b => Nat.beq b' b || memO r b
 | none :: r, b => memO r b
def keepR (n p : Nat) (fz : List Nat) (ρ : List (Option Nat)) : List (Option Nat) := (List.range n).map fun b => bif memN fz b && Nat.ble p b && !memO ρ b then none else some b
def frzOp (own : List Nat) (i : Nat) (o : Oper) (σ : TS) : List Nat :=
 (bif memN own i then (match o.op with
   | .store _ _ y => objsT (σ.eval y)
   | _ => []) else []) ++ (bif memN own (i + 2000000) then (match o.op with
   | .buildSlice _ _ xs => xs.toList.flatMap fun x => objsT (σ.eval x.2)
   | _ => []) else [])
def stFz (σ : TS) (fz : List Nat) : TS := stRe σ (zay σ.p σ.H (keepR (List.length σ.H) σ.p fz []) fz) (List.replicate (List.length σ.H) .gone) (keepR (List.length σ.H) σ.p fz [])
def opnT : TV → TV
 | .v (.st us) x => .agg (zbz us x)
 | t => t
theorem z1oh {t : TV} (h : t.wf) : (opnT t).wf ∧ (opnT t).pv = t.pv := by
 unfold opnT
 split
 · rename_i us x
   simp only [TV.wf, wfU] at h
   obtain ⟨h1, h2, h3, h4⟩ := z13k us x h
   exact ⟨by simp only [TV.wf]; exact ⟨h3, h1, by rw [h2]; exact zkq us x h⟩, by simp only [TV.pv, pvU, cellU, h2]⟩
 · exact ⟨h, rfl⟩
def opnL (t : Nat) : List (Nat × TV) → List (Nat × TV)
 | [] => []
 | (s, p) :: r => bif Nat.beq s t then (s, opnT p) :: r else (s, p) :: opnL t r
theorem z1fa (t : Nat) : ∀ {l : List (Nat × TV)}, (∀ x, x ∈ l → x.2.wf) → ((opnL t l).map (fun x => (x.1, x.2.pv)) = l.map fun x => (x.1, x.2.pv)) ∧ ∀ x, x ∈ opnL t l → x.2.wf
 | [], _ => ⟨rfl, fun x h => by cases h⟩
 | (s, p) :: r, h => by
   have hp := z1oh (h (s, p) (by simp))
   obtain ⟨h1, h2⟩ := z1fa t (l := r) fun x hx => h x (by simp [hx])
   simp only [opnL]
   cases hb : Nat.beq s t with
   | true =>
     refine ⟨by simp only [cond_true, List.map_cons, hp.2], fun x hx => ?_⟩
     rcases List.mem_cons.1 hx with rfl | hx
     · exact hp.1
     · exact h x (by simp [hx])
   | false =>
     refine ⟨by simp only [cond_false, List.map_cons, h1], fun x hx => ?_⟩
     rcases List.mem_cons.1 hx with rfl | hx
     · exact h _ (by simp)
     · exact h2 x hx
def opnOp (own : List Nat) (i : Nat) (o : Oper) (σ : TS) : TS :=
 match o.op with
 | .store _ _ (.tmp t) => bif memN own (i + 1000000) then { σ with slots := opnL t σ.slots } else σ
 | _ => σ
theorem z1c3 {own : List Nat} {i : Nat} {o : Oper} {σ : TS} (hw : σ.wf) : (opnOp own i o σ).wf ∧ (opnOp own i o σ).flat = σ.flat ∧ (opnOp own i o σ).p = σ.p ∧ (opnOp own i o σ).n = σ.n := by
 unfold opnOp
 split
 · rename_i t _
   cases memN own (i + 1000000) with
   | false => exact ⟨hw, rfl, rfl, rfl⟩
   | true =>
     obtain ⟨h1, h2⟩ := z1fa t hw.slots
     exact ⟨⟨h2, hw.H⟩, by simp only [cond_true, TS.flat, h1], rfl, rfl⟩
 · exact ⟨hw, rfl, rfl, rfl⟩
theorem z1pt {P : Program} {own : List Nat} {i : Nat} {o : Oper} {σ : TS} {N : TS → Prop} (hw : σ.wf) (h : TStep P o (opnOp own i o σ) N) : TStep P o σ N := by
 obtain ⟨_, h2, h3, _⟩ := z1c3 (own := own) (i := i) (o := o) hw
 intro c a w K Q hr hK
 refine h c a w K Q ?_ fun c' a' w' σ' hN hw' hr' hx hd => hK c' a' w' σ' hN hw' hr' (by rw [← h3]; exact hx) hd
 refine ⟨by rw [h3]; exact hr.1, by rw [h2]; exact hr.2⟩
noncomputable def eff2K {R : Type} (P : Program) (V : Env) (own : List Nat) (i : Nat) (o : Oper) (σ : TS) (k : TS → Option R) : Option R :=
 match frzOp own i o σ with
   | [] => eff1K P V own i o σ k
   | b :: bs => bif zci σ.p (keepR (List.length σ.H) σ.p (b :: bs) []) then eff1K P V own i o (stFz σ (b :: bs)) k else none
noncomputable def effK {R : Type} (P : Program) (V : Env) (own : List Nat) (i : Nat) (o : Oper) (σ : TS) (k : TS → Option R) : Option R :=
 match z1ih P o σ with
 | some (n, ng) => nilK n fun b => k (σ.put o.dst (.v .bool (bif ng then !b else b)))
 | none => eff2K P V own i o (opnOp own i o σ) k
theorem z1cg {P : Program} {own : List Nat} {i : Nat} {o : Oper} {σ : TS} (h : zw8 P own i o σ = true) : z18f P o = true := by
 unfold zw8 at h
 unfold z18f
 cases ho : o.op <;> rw [ho] at h <;> first | rfl | exact h
structure EffOK (P : Program) (o : Oper) (σ σ' : TS) : Prop where
 wf : σ'.wf
 n : σ'.n = σ.n
 p : σ'.p = σ.p
theorem zz9 {R : Type} {P : Program} {V : Env} (hV : EnvsOK P V) {o : Oper} {σ : TS} {k : TS → Option R} {r : R} (hw : σ.wf) (h : (zng P V.E o σ fun q => k (σ.put o.dst q)) = some r) :
   TStep P o σ (fun σ' => k σ' = some r ∧ σ'.n = σ.n) ∧ ∃ σ', σ'.wf ∧ k σ' = some r := by
 obtain ⟨q, h1, h2⟩ := z1d7 hV.E hw h
 exact ⟨z1l1 hw h2 ⟨h1, (put_H _ _ _).2.1⟩, _, z7j hw _ h2.1, h1⟩
theorem z1fn {R : Type} {P : Program} {V : Env} (hV : EnvsOK P V) {own : List Nat} {i : Nat} {o : Oper} {σ : TS} {k : TS → Option R} {r : R} (hw : σ.wf) (h : eff1K P V own i o σ k = some r) :
   TStep P o σ (fun σ' => k σ' = some r ∧ σ'.n = σ.n) ∧ ∃ σ', σ'.wf ∧ k σ' = some r := by
 unfold eff1K at h
 cases hk : zw8 P own i o σ with
 | true =>
   rw [hk] at h
   simp only [cond_true] at h
   obtain ⟨pf, e, ob, h1, h2⟩ := z1i2 hw (z1cg hk) h
   refine ⟨z1pc hw h2 ⟨h1, (put_H _ _ _).2.1⟩, _, ⟨fun x hx => ?_, fun q hq => ?_⟩, h1⟩
   · exact (z7j hw o.dst (h2.pwf σ.H.length)).slots x hx
   · rcases List.mem_append.1 hq with hq | hq
     · exact hw.H q hq
     · simp only [List.mem_singleton] at hq; subst hq; exact h2.wf
 | false =>
   rw [hk] at h
   simp only [cond_false] at h
   split at h
   · rename_i t x y ho
     split at h
     · rename_i hd
       obtain ⟨b, e, ob', h1, h2⟩ := z1cb ho hw h
       have hw' : TS.wf { σ with H := σ.H.set b (.ob e ob') } := z1d6 hw b h2.wf
       refine ⟨fun c a w K Q hr hK => ?_, _, hw', h1⟩
       refine h2.step σ.flat.H rfl c a w K Q hr.2 fun w' hg hx => ?_
       refine hK c _ w' _ ⟨h1, rfl⟩ hw' ⟨hr.1, ?_, ?_⟩ (ext_p hr.noT hx) (Act.put_defers' _ _ _)
       · rw [z13d]; exact hg
       · rw [hd]; exact hr.2.2.ext hx
     · cases h
   · rename_i xs ts ho
     cases hos : z1nm (xs.toList.map σ.eval) with
     | false => rw [hos] at h; exact zz9 hV hw h
     | true =>
       rw [hos] at h
       simp only [cond_true] at h
       obtain ⟨b, e, u, l, h1, h2⟩ := z1px ho hw h
       refine ⟨h2.step _ ⟨h1, rfl⟩, _, ⟨fun z hz => ?_, fun q hq => ?_⟩, h1⟩
       · rcases List.mem_append.1 hz with hz | hz
         · cases hd : o.dst with
           | none => rw [hd] at hz; cases hz
           | some d => rw [hd] at hz; simp at hz; subst hz; simp only [TV.wf]
         · simp only [butS, List.mem_map] at hz
           obtain ⟨z', hz', rfl⟩ := hz
           exact (mv_wf (fun b' o' h => absurd h (z11z b b' o')) _ (hw.slots _ hz')).1
       · rcases List.mem_append.1 hq with hq | hq
         · simp only [List.mem_map] at hq
           obtain ⟨q', hq', rfl⟩ := hq
           refine (ob_mv ?_).2
           rcases List.mem_or_eq_of_mem_set hq' with hq' | hq'
           · exact hw.H _ hq'
           · rw [hq']; trivial
         · simp only [List.mem_singleton] at hq; subst hq; exact h2.wf
   · rename_i xs ts ho
     obtain ⟨b, e, ob', h1, h2⟩ := z1mi ho hw h
     have hw' : TS.wf { σ with H := σ.H.set b (.ob e ob') } := z1d6 hw b h2.wf
     have hw2 : (TS.put { σ with H := σ.H.set b (.ob e ob') } o.dst .dead).wf := z7j hw' _ zre
     refine ⟨fun c a w K Q hr hK => ?_, _, hw2, h1⟩
     have hstep := h2.step (fun τ => τ = ({ σ.flat with H := σ.flat.H.set b (.row ob'.cells e) } : AS).put o.dst .dead) rfl
     refine hstep c a w K Q hr.2 fun c' a' w' τ hτ hr' hx hd => ?_
     subst hτ
     refine hK c' a' w' _ ⟨h1, (put_H _ _ _).2.1⟩ hw2 ⟨?_, ?_⟩ (ext_p hr.noT hx) hd
     · rw [(put_H _ _ _).2.2, hx.pn, hr.1]
     · rw [zk0, z13d]
       simp only [TV.pv]
       exact hr'
   · rename_i xs ts ho
     obtain ⟨b, e, ob', h1, h2⟩ := z1kw ho hw h
     have hw' : TS.wf { σ with H := σ.H.set b (.ob e ob') } := z1d6 hw b h2.wf
     have hw2 : (TS.put { σ with H := σ.H.set b (.ob e ob') } o.dst .dead).wf := z7j hw' _ zre
     refine ⟨fun c a w K Q hr hK => ?_, _, hw2, h1⟩
     have hstep := h2.step (fun τ => τ = ({ σ.flat with H := σ.flat.H.set b (.row ob'.cells e) } : AS).put o.dst .dead) rfl
     refine hstep c a w K Q hr.2 fun c' a' w' τ hτ hr' hx hd => ?_
     subst hτ
     refine hK c' a' w' _ ⟨h1, (put_H _ _ _).2.1⟩ hw2 ⟨?_, ?_⟩ (ext_p hr.noT hx) hd
     · rw [(put_H _ _ _).2.2, hx.pn, hr.1]
     · rw [zk0, z13d]
       simp only [TV.pv]
       exact hr'
   · rename_i fo xs ats ho
     split at h
     · rename_i f caps hfo
       cases ha : anyOk V.E f σ.H (xs.toList.map σ.eval ++ caps) with
       | true => rw [ha] at h; exact zz9 hV hw h
       | false =>
         rw [ha] at h
         simp only [cond_false] at h
         have hwf := z0u hw fo
         rw [hfo] at hwf
         simp only [TV.wf] at hwf
         have hd := z19u hV.F hw (fun a ha => by
           rcases List.mem_append.1 ha with ha | ha
           · simp only [List.mem_map] at ha
             obtain ⟨x, _, rfl⟩ := ha
             exact z0u hw x
           · exact z3u.1 hwf a ha) h
         refine ⟨fun c a w K Q hr hK => ?_, ?_⟩
         · have hrel : RelC w c { σ.flat with H := σ.flat.H ++ [] } a := by rw [List.append_nil]; exact hr.2
           obtain ⟨cv, e1, e2, e3⟩ := zzr (xs := xs) hrel hfo
           unfold Oper.wp
           rw [z14s ho hd.can e1]
           show Calls P f (xs.map a.eval ++ cv) w _
           refine (hd.calls c w a _ hr e2 e3).mono ?_
           rintro ed w' ⟨v, σ', t, c', rfl, hk', hw', ht, hn, hr', hv, hx⟩
           exact hK c' _ w' _ ⟨hk', by rw [(put_H _ _ _).2.1]; exact hn⟩ (z7j hw' _ ht) (zlp _ hr' hv) hx (Act.put_defers' _ _ _)
         · obtain ⟨σ', t, hk', hw', ht⟩ := hd.wf
           exact ⟨_, z7j hw' _ ht, hk'⟩
     · cases h
   · rename_i s t x ho
     cases hs : sameB P s t σ.H (σ.eval x) with
     | false => rw [hs] at h; exact zz9 hV hw h
     | true =>
       rw [hs] at h
       simp only [cond_true] at h
       unfold sameB at hs
       split at hs
       · rename_i b r p u lo n hx
         simp only [Bool.and_eq_true] at hs
         obtain ⟨⟨⟨h1, h2⟩, h3⟩, h4⟩ := hs
         have := Nat.eq_of_beq_eq_true h1
         subst this
         split at h4
         · rename_i e ob hob
           rw [hx] at h
           exact ⟨z1nf ho hw h2 hx h3 hob ⟨h, (put_H _ _ _).2.1⟩, _, z7j hw _ (by have := z0u hw x; rwa [hx] at this), h⟩
         · cases h4
       · cases hs
   · exact zz9 hV hw h
theorem z1oi {R : Type} {P : Program} {V : Env} (hV : EnvsOK P V) {own : List Nat} {i : Nat} {o : Oper} {σ : TS} {k : TS → Option R} {r : R} (hw : σ.wf) (h : eff2K P V own i o σ k = some r) :
   TStep P o σ (fun σ' => k σ' = some r ∧ σ'.n = σ.n) ∧ ∃ σ', σ'.wf ∧ k σ' = some r := by
 unfold eff2K at h
 split at h
 · exact z1fn hV hw h
 · rename_i b bs _
   cases hc : zci σ.p (keepR (List.length σ.H) σ.p (b :: bs) []) with
   | false => rw [hc] at h; cases h
   | true =>
     rw [hc] at h
     obtain ⟨h1, h2⟩ := z1fn hV (σ := stFz σ (b :: bs)) (z18m hw) h
     refine ⟨fun c a w K Q hr hK => ?_, h2⟩
     obtain ⟨q1, q2⟩ := z1hl hr hw hc (b :: bs) (hs := List.replicate (List.length σ.H) .gone) (by simp [keepR])
     refine h1 _ a w K Q q1 fun c' a' w' σ' hN hw' hr' hx hd => hK c' a' w' σ' hN hw' hr' (ExtP.trans q2 hx) hd
theorem zwn {R : Type} {P : Program} {V : Env} (hV : EnvsOK P V) {own : List Nat} {i : Nat} {o : Oper} {σ : TS} {k : TS → Option R} {r : R} (hw : σ.wf) (h : effK P V own i o σ k = some r) :
   TStep P o σ (fun σ' => k σ' = some r ∧ σ'.n = σ.n) ∧ ∃ σ', σ'.wf ∧ k σ' = some r := by
 unfold effK at h
 split at h
 · rename_i n ng hc
   obtain ⟨h1, h2⟩ := z1pb h
   refine ⟨z1jg hc hw fun b hb => ⟨?_, (put_H _ _ _).2.1⟩, _, z7j hw _ (by simp only [TV.wf, wfU]), h1⟩
   cases b with
   | false => exact h1
   | true =>
     by_cases h0 : n = 0
     · exact h2 h0
     · cases hb h0
 · obtain ⟨o1, _, _, o4⟩ := z1c3 (own := own) (i := i) (o := o) hw
   obtain ⟨h1, h2⟩ := z1oi hV o1 h
   rw [o4] at h1
   exact ⟨z1pt hw h1, h2⟩
def zwa (d : Nat) (b : Bool) : List (Nat × TV) → List (Nat × TV)
 | [] => []
 | (t, p) :: r => bif Nat.beq t d then (t, .v .bool b) :: r else (t, p) :: zwa d b r
def TS.refine (σ : TS) (d : Nat) (b : Bool) : TS := { σ with slots := zwa d b σ.slots }
theorem z16f {d : Nat} {b : Bool} : ∀ {l : List (Nat × TV)}, lookT l d = some (.v .bool b) → (zwa d b l).map (fun x => (x.1, x.2.pv)) = l.map fun x => (x.1, x.2.pv)
 | [], h => by simp [lookT] at h
 | (t, p) :: r, h => by
   simp only [lookT] at h
   simp only [zwa]
   cases hb : Nat.beq t d with
   | true => rw [hb] at h; simp only [cond_true, Option.some.injEq] at h ⊢; rw [h]
   | false => rw [hb] at h; simp only [cond_false] at h ⊢; simp only [List.map_cons, z16f h]
theorem z1a8 {d : Nat} {b : Bool} : ∀ {l : List (Nat × TV)} {x : Nat × TV}, x ∈ zwa d b l → x ∈ l ∨ x.2 = .v .bool b
 | [], x, h => by cases h
 | (t, p) :: r, x, h => by
   simp only [zwa] at h
   cases hb : Nat.beq t d with
   | true =>
     rw [hb] at h
     rcases List.mem_cons.1 h with rfl | h
     · exact .inr rfl
     · exact .inl (by simp [h])
   | false =>
     rw [hb] at h
     rcases List.mem_cons.1 h with rfl | h
     · exact .inl (by simp)
     · rcases z1a8 h with h | h
       · exact .inl (by simp [h])
       · exact .inr h
theorem z1jd {σ : TS} {d : Nat} {b : Bool} (h : σ.get d = .v .bool b) : (σ.refine d b).flat = σ.flat := by
 unfold TS.get at h
 cases hn : Nat.blt d σ.n with
 | false => rw [hn] at h; cases h
 | true =>
   rw [hn] at h
   simp only [cond_true] at h
   cases hl : lookT σ.slots d with
   | none => rw [hl] at h; cases h
   | some p => rw [hl] at h; simp only [Option.getD_some] at h; subst h; simp only [TS.flat, TS.refine, z16f hl]
theorem z1m2 {σ : TS} (hw : σ.wf) (d : Nat) (b : Bool) : (σ.refine d b).wf :=
 ⟨fun x hx => by
   rcases z1a8 hx with hx | hx
   · exact hw.slots x hx
   · rw [hx]; simp only [TV.wf, wfU], hw.H⟩
def z12h {R : Type} (ops : Array Oper) (o : Oper) (view σ : TS) (yes no : TS → Option R) : Option R :=
 match o.guard with
 | none => yes σ
 | some (j, want) =>
   match (ops[j]?).bind (·.dst) with
   | none => no σ
   | some d =>
     match view.get d with
     | .v .bool β => cond β (cond want (yes (σ.refine d true)) (no (σ.refine d true))) (cond want (no (σ.refine d false)) (yes (σ.refine d false)))
     | .tup _ => no σ
     | _ => none
structure Same (σ σ' : TS) : Prop where
 flat : σ'.flat = σ.flat
 H : σ'.H = σ.H
 p : σ'.p = σ.p
 wf : σ'.wf
theorem zlr {R : Type} {ops : Array Oper} {o : Oper} {view σ : TS} {yes no : TS → Option R} {r : R} (hw : σ.wf) (hv : ∀ d b, view.get d = .v .bool b → σ.get d = .v .bool b) (h : z12h ops o view σ yes no = some r) :
   ∃ g σ', z5g ops view.flat o = some g ∧ Same σ σ' ∧ (if g = true then yes σ' else no σ') = some r := by
 unfold z12h at h
 unfold z5g
 split at h
 · rename_i hg; rw [hg]; exact ⟨true, σ, rfl, ⟨rfl, rfl, rfl, hw⟩, h⟩
 · rename_i j want hg
   rw [hg]
   split at h
   · rename_i hd; simp only [hd]; exact ⟨false, σ, rfl, ⟨rfl, rfl, rfl, hw⟩, h⟩
   · rename_i d hd
     simp only [hd]
     rw [zl2]
     split at h
     · rename_i β hβ
       rw [hβ]
       have hσ := hv d β hβ
       refine ⟨β == want, σ.refine d β, rfl, ⟨z1jd hσ, rfl, rfl, z1m2 hw d β⟩, ?_⟩
       cases β <;> cases want <;> exact h
     · rename_i hβ; rw [hβ]; exact ⟨false, σ, by simp only [TV.pv], ⟨rfl, rfl, rfl, hw⟩, h⟩
     · cases h
theorem RelT.same {w : World} {c : Cx} {σ σ' : TS} {a : Act} (h : RelT w c σ a) (hs : Same σ σ') : RelT w c σ' a := ⟨by rw [hs.p]; exact h.1, by rw [hs.flat]; exact h.2⟩
theorem z12m : (TV.tup []).wf := by simp only [TV.wf, TV.wfs]
noncomputable def opsK {R : Type} (P : Program) (V : Env) (own : List Nat) (ops : Array Oper) : List Oper → Nat → TS → (TS → Option R) → Option R
 | [], _, σ, k => k σ
 | o :: r, i, σ, k => z12h ops o σ σ (fun σ => effK P V own i o σ fun σ' => opsK P V own ops r (i + 1) σ' k) (fun σ => opsK P V own ops r (i + 1) (σ.put o.dst (.tup [])) k)
theorem zrq {R : Type} {P : Program} {V : Env} (hV : EnvsOK P V) {own : List Nat} {ops : Array Oper} {k : TS → Option R} {r : R} : ∀ (l : List Oper) (i : Nat) {σ : TS}, ops.toList.drop i = l → σ.wf → opsK P V own ops l i σ k = some r →
   (∃ σ', σ'.wf ∧ k σ' = some r) ∧ ∀ {c : Cx} {a : Act} {w : World} {Q' : Exit → Act → World → Prop}, RelT w c σ a →
   (∀ c' a' w' σ', k σ' = some r → σ'.wf → RelT w' c' σ' a' → ExtP σ.p w c w' c' → a'.defers = a.defers → Q' .normal a' w') → wpOps P ops Q' (List.range' i l.length) a w
 | [], i, σ, hd, hw, h => ⟨⟨σ, hw, h⟩, fun hr hK => hK _ _ _ σ (by simpa only [opsK] using h) hw hr (ExtP.refl _ _ _) rfl⟩
 | o :: l, i, σ, hd, hw, h => by
   have ho : ops[i]? = some o := by
     have : ops.toList[i]? = some o := by
       have h3 : (ops.toList.drop i)[0]? = some o := by rw [hd]; rfl
       rw [List.getElem?_drop] at h3; simpa using h3
     simpa using this
   have hd' : ops.toList.drop (i + 1) = l := by
     have : ops.toList.drop (i + 1) = (ops.toList.drop i).drop 1 := by rw [List.drop_drop]
     rw [this, hd]; rfl
   simp only [opsK] at h
   obtain ⟨g, σ', hg, hs, h⟩ := zlr hw (fun _ _ e => e) h
   cases g with
   | true =>
     simp only [if_true] at h
     obtain ⟨hstep, σ2, hw2, h2⟩ := zwn hV hs.wf h
     refine ⟨(zrq hV l (i + 1) hd' hw2 h2).1, fun {c a w Q'} hr hK => ?_⟩
     simp only [List.length_cons, List.range'_succ, wpOps, ho]
     rw [z2p hr.2.2 hg]
     simp only [if_true]
     refine .inl (hstep c a w _ Q' (hr.same hs) fun c' a' w' σ2 hk hw2 hr2 hx hdf => ?_)
     refine (zrq hV l (i + 1) hd' hw2 hk.1).2 hr2 fun c3 a3 w3 σ3 hk3 hw3 hr3 hx3 hd3 => ?_
     have e2 : σ2.p = σ'.p := (hr.same hs).p hr2 hx
     rw [e2] at hx3
     have := ExtP.trans hx hx3
     rw [hs.p] at this
     exact hK c3 a3 w3 σ3 hk3 hw3 hr3 this (hd3.trans hdf)
   | false =>
     simp only [Bool.false_eq_true, if_false] at h
     have hwp := z7j hs.wf o.dst z12m
     refine ⟨(zrq hV l (i + 1) hd' hwp h).1, fun {c a w Q'} hr hK => ?_⟩
     simp only [List.length_cons, List.range'_succ, wpOps, ho]
     rw [z2p hr.2.2 hg]
     simp only [Bool.false_eq_true, if_false]
     refine (zrq hV l (i + 1) hd' hwp h).2 (zlp o.dst (hr.same hs) (by simp only [TV.pv, TV.pvs]; exact zoa)) fun c3 a3 w3 σ3 hk3 hw3 hr3 hx3 hd3 => ?_
     rw [(put_H _ _ _).2.2, hs.p] at hx3
     exact hK c3 a3 w3 σ3 hk3 hw3 hr3 hx3 (hd3.trans (Act.put_defers' _ _ _))
end Go.Tm
set_option linter.unusedSimpArgs false
set_option linter.unusedVariables false
namespace Go.Tm
open Go.Ab
abbrev Fp := List Nat × List Nat
def z1sm (a b : Fp) : Bool := D.meets a.1 b.2 || D.meets b.1 a.2
def zz6 (ops : Array Oper) (it : Fp) (j : Nat) : List Fp → Nat → Bool
 | [], _ => true
 | jt :: r, k => (!(z1sm it jt) || bef ops k j) && zz6 ops it j r (k + 1)
def zw9 (ops : Array Oper) : List Fp → Nat → Bool
 | [], _ => true
 | it :: r, j => zz6 ops it j r (j + 1) && zw9 ops r (j + 1)
def fpOf (it : D.Item) : Fp := (it.wr, it.rd)
theorem z18c (ops : Array Oper) (it : D.Item) (j : Nat) : ∀ (l : List D.Item) (k : Nat), zz6 ops (fpOf it) j (l.map fpOf) k = D.confWith ops it j l k
 | [], _ => rfl
 | jt :: r, k => by
   simp only [List.map_cons, zz6, D.confWith, z18c ops it j r]
   rfl
theorem z1ch (ops : Array Oper) : ∀ (l : List D.Item) (j : Nat), zw9 ops (l.map fpOf) j = D.confOk ops l j
 | [], _ => rfl
 | it :: r, j => by simp only [List.map_cons, zw9, D.confOk, z18c, z1ch ops r]
def z10s (n : Nat) : List Nat → Bool
 | [] => true
 | b :: L => Nat.blt b n && z10s n L
theorem zsa {n : Nat} : ∀ {L : List Nat}, z10s n L = true → ∀ b, b ∈ L → b < n
 | [], _, b, hb => by cases hb
 | a :: L, h, b, hb => by
   simp only [z10s, Bool.and_eq_true] at h
   rcases List.mem_cons.1 hb with rfl | hb
   · exact Nat.blt_eq.mp h.1
   · exact zsa h.2 b hb
def drawK {R : Type} (P : Program) (V : Env) (own : List Nat) (ops : Array Oper) : List Oper → Nat → TS → (List Fp → TS → Option R) → Option R
 | [], _, σ, k => k [] σ
 | o :: r, i, σ, k => z12h ops o (σ.keep (o.looksAt ops)) σ
     (fun σ => bif z10s σ.H.length (z5j o (σ.keep (o.looksAt ops))) then
         bif zw8 P own i o (σ.keep (o.looksAt ops)) then newK P o (σ.keep (o.looksAt ops)) fun pf e ob =>
           drawK P V own ops r (i + 1) { σ.put o.dst (pf σ.H.length) with H := σ.H ++ [.ob e ob] } fun fs => k (([σ.H.length], σ.H.length :: z5j o (σ.keep (o.looksAt ops))) :: fs)
         else match o.op with
           | .store t x y => match o.dst with
             | none => z1bo P o (σ.keep (o.looksAt ops)) t x y fun b e ob' => drawK P V own ops r (i + 1) { σ with H := σ.H.set b (.ob e ob') } fun fs => k (([b], [b]) :: fs)
             | some _ => none
           | .call { callee := .value fo, args := xs, argTypes := _ } => match (σ.keep (o.looksAt ops)).eval fo with
             | .fn f caps => bif anyOk V.E f σ.H (xs.toList.map (σ.keep (o.looksAt ops)).eval ++ caps) then zng P V.E o (σ.keep (o.looksAt ops)) fun q => drawK P V own ops r (i + 1) (σ.put o.dst q) fun fs => k (([], z5j o (σ.keep (o.looksAt ops))) :: fs)
               else z17m V.D f (σ.keep (o.looksAt ops)) (xs.toList.map (σ.keep (o.looksAt ops)).eval ++ caps) fun t us q L => drawK P V own ops r (i + 1) { σ.put o.dst t with H := ztb us (σ.H ++ List.replicate q .gone) } fun fs => k ((us.map (·.1), us.map (·.1) ++ L) :: fs)
             | _ => none
           | _ => zng P V.E o (σ.keep (o.looksAt ops)) fun q => drawK P V own ops r (i + 1) (σ.put o.dst q) fun fs => k (([], z5j o (σ.keep (o.looksAt ops))) :: fs)
       else none)
     (fun σ => drawK P V own ops r (i + 1) (σ.put o.dst (.tup [])) fun fs => k (([], []) :: fs))
theorem z1qg {σ : TS} {l : List Nat} {t : Nat} {p : TV} (h : (σ.keep l).get t = p) (hp : p ≠ .dead) : σ.get t = p := by
 unfold TS.get at h
 cases hn : Nat.blt t (σ.keep l).n with
 | false => rw [hn] at h; exact absurd h.symm hp
 | true =>
   rw [hn] at h
   simp only [cond_true] at h
   have key : ∀ (l : List Nat) (q : TV), lookT (l.map fun t => (t, σ.get t)) t = some q → σ.get t = q := by
     intro l
     induction l with
     | nil => intro q h; simp [lookT] at h
     | cons s l ih =>
       intro q h
       simp only [List.map_cons, lookT] at h
       cases hb : Nat.beq s t with
       | true =>
         rw [hb] at h
         have := Nat.eq_of_beq_eq_true hb
         subst this
         simpa using h
       | false => rw [hb] at h; exact ih q (by simpa using h)
   cases hl : lookT (l.map fun t => (t, σ.get t)) t with
   | none => simp only [TS.keep, hl, Option.getD_none] at h; exact absurd h.symm hp
   | some q => simp only [TS.keep, hl, Option.getD_some] at h; exact h ▸ key l q hl
theorem zs5 (σ : AS) (H : List AObj) (d : Option Nat) (p : PV) : AS.put { σ with H := H } d p = { σ.put d p with H := H } := by cases d <;> rfl
theorem z13u (l : List Oper) : ∀ (ps : List PV) (σ : AS) (H : List AObj), z4g l ps { σ with H := H } = { z4g l ps σ with H := H } := by
 induction l with
 | nil => intro ps σ H; cases ps <;> rfl
 | cons o l ih =>
   intro ps σ H
   cases ps with
   | nil => rfl
   | cons p ps => simp only [z4g, zs5]; exact ih ps _ H
structure Drawn (P : Program) (ops : Array Oper) (l : List Oper) (its : List D.Item) (n : Nat) (σ σ' : TS) : Prop where
 does : ∀ m H0, D.Does P ops l its (σ.flat.H ++ List.replicate (n + m) .gone) { σ.flat with H := H0 }
 slots : ∀ H0, { z4g l (its.map D.Item.pv) σ.flat with H := H0 } = { σ'.flat with H := H0 }
 heap : ∀ m, D.heapTo its (σ.flat.H ++ List.replicate (n + m) .gone) = σ'.flat.H ++ List.replicate m .gone
 p : σ'.p = σ.p
theorem z1hx (σ : TS) (d : Option Nat) (q : TV) (e : TypeId) (ob : Ob) : TS.flat { σ.put d q with H := σ.H ++ [.ob e ob] } = { σ.flat.put d q.pv with H := σ.flat.H ++ [.row ob.cells e] } := by
 cases d <;> simp [TS.flat, TS.put, AS.put, TOb.flat]
theorem z1ly {σ : TS} (hw : σ.wf) (d : Option Nat) {q : TV} (hq : q.wf) (e : TypeId) {ob : Ob} (ho : ob.wf) : TS.wf { σ.put d q with H := σ.H ++ [.ob e ob] } :=
 ⟨(z7j hw d hq).slots, fun x hx => by
   rcases List.mem_append.1 hx with hx | hx
   · exact hw.H x hx
   · simp only [List.mem_singleton] at hx; subst hx; exact ho⟩
theorem zl0 {R : Type} {P : Program} {V : Env} (hV : EnvsOK P V) {own : List Nat} {ops : Array Oper} : ∀ (l : List Oper) (i : Nat) {k : List Fp → TS → Option R} {r : R} {σ : TS}, σ.wf → drawK P V own ops l i σ k = some r →
   ∃ its n σ', Drawn P ops l its n σ σ' ∧ k (its.map fpOf) σ' = some r ∧ σ'.wf
 | [], i, k, r, σ, hw, h => ⟨[], 0, σ, ⟨fun _ _ => trivial, fun _ => rfl, fun m => by simp [D.heapTo], rfl⟩, by simpa only [drawK, List.map_nil] using h, hw⟩
 | o :: l, i, k, r, σ, hw, h => by
   simp only [drawK] at h
   obtain ⟨g, σ1, hg, hs, h⟩ := zlr hw (fun d b e => z1qg e (by simp)) h
   rw [z17u] at hg
   have hHlen : σ1.H.length = σ.H.length := by rw [hs.H]
   have hlenf : σ.flat.H.length = σ.H.length := by simp [TS.flat]
   have hkf : (σ1.keep (o.looksAt ops)).flat = σ.flat.keep (o.looksAt ops) := by rw [z17u, hs.flat]
   cases g with
   | false =>
     simp only [Bool.false_eq_true, if_false] at h
     obtain ⟨its, nn, σ', ⟨d1, d2, d3, d4⟩, g2, g3⟩ := zl0 hV l (i + 1) (z7j hs.wf o.dst z12m) h
     have eH : (σ1.put o.dst (.tup [])).flat.H = σ.flat.H := by rw [zk0, hs.flat]; cases o.dst <;> rfl
     rw [eH] at d1 d3
     rw [zk0, hs.flat] at d1 d2
     simp only [TV.pv, TV.pvs] at d1 d2
     refine ⟨D.Item.q (.tup []) [] :: its, nn, σ', ⟨fun m H0 => ⟨⟨false, hg, by simp⟩, ?_⟩, fun H0 => ?_, fun m => d3 m, ?_⟩, g2, g3⟩
     · rw [zs5]; exact d1 m H0
     · exact d2 H0
     · rw [d4, (put_H _ _ _).2.2, hs.p]
   | true =>
     simp only [if_true] at h
     cases hb : z10s σ1.H.length (z5j o (σ1.keep (o.looksAt ops))) with
     | false => rw [hb] at h; cases h
     | true =>
       rw [hb] at h
       simp only [cond_true] at h
       have hb' := zsa hb
       have agree : ∀ (m : Nat) (Y : List AObj), (∀ b, b ∈ z5j o (σ1.keep (o.looksAt ops)) → Y[b]? = (σ.flat.H ++ List.replicate m AObj.gone)[b]?) → ∀ b, b ∈ z5j o (σ1.keep (o.looksAt ops)) → Y[b]? = (σ1.keep (o.looksAt ops)).flat.H[b]? := fun m Y hY b hbm => by
         rw [hY b hbm, List.getElem?_append_left (by rw [hlenf, ← hHlen]; exact hb' b hbm)]
         rw [hkf]; rfl
       have hkw := z1ed hs.wf (o.looksAt ops)
       have q0 : (zng P V.E o (σ1.keep (o.looksAt ops)) fun q => drawK P V own ops l (i + 1) (σ1.put o.dst q) fun fs => k (([], z5j o (σ1.keep (o.looksAt ops))) :: fs)) = some r → ∃ its n σ', Drawn P ops (o :: l) its n σ σ' ∧ k (its.map fpOf) σ' = some r ∧ σ'.wf := by
         intro h
         obtain ⟨q, h1, h2, h3⟩ := z1d7 hV.E hkw h
         obtain ⟨its, nn, σ', ⟨d1, d2, d3, d4⟩, g2, g3⟩ := zl0 hV l (i + 1) (z7j hs.wf o.dst h2) h1
         have eH : (σ1.put o.dst q).flat.H = σ.flat.H := by rw [zk0, hs.flat]; cases o.dst <;> rfl
         rw [eH] at d1 d3
         rw [zk0, hs.flat] at d1 d2
         refine ⟨D.Item.q q.pv (z5j o (σ1.keep (o.looksAt ops))) :: its, nn, σ', ⟨fun m H0 => ⟨⟨true, hg, ?_⟩, ?_⟩, fun H0 => d2 H0, fun m => d3 m, ?_⟩, g2, g3⟩
         · rw [if_pos rfl]
           intro Y hY
           have := h3 Y (agree _ Y hY)
           rw [hkf] at this
           exact this
         · rw [zs5]; exact d1 m H0
         · rw [d4, (put_H _ _ _).2.2, hs.p]
       cases hk : zw8 P own i o (σ1.keep (o.looksAt ops)) with
       | true =>
         rw [hk] at h
         simp only [cond_true] at h
         obtain ⟨pf, e, ob, h1, h2⟩ := z1i2 hkw (z1cg hk) h
         obtain ⟨its, nn, σ', ⟨d1, d2, d3, d4⟩, g2, g3⟩ := zl0 hV l (i + 1) (z1ly hs.wf o.dst (h2.pwf σ1.H.length) e h2.wf) h1
         rw [z1hx, hs.flat] at d1 d2 d3
         have eset : ∀ m, (σ.flat.H ++ List.replicate (m + 1) AObj.gone).set σ.H.length (.row ob.cells e) = σ.flat.H ++ [.row ob.cells e] ++ List.replicate m .gone := fun m => by
           rw [List.set_append_right _ _ (by rw [hlenf]; exact Nat.le_refl _), hlenf, Nat.sub_self, List.replicate_succ]
           simp
         refine ⟨D.Item.al (fun b => (pf b).pv) σ.H.length ob.cells e (z5j o (σ1.keep (o.looksAt ops))) :: its, nn + 1, σ', ⟨fun m H0 => ⟨⟨?_, hg, ?_⟩, ?_⟩, fun H0 => ?_, fun m => ?_, ?_⟩, ?_, g3⟩
         · show (σ.flat.H ++ List.replicate (nn + 1 + m) AObj.gone)[σ.H.length]? = some .gone
           rw [List.getElem?_append_right (by rw [hlenf]; exact Nat.le_refl _), hlenf, Nat.sub_self, show nn + 1 + m = (nn + m) + 1 by omega, List.replicate_succ]
           rfl
         · intro Y hY
           have := h2.new Y (agree _ Y hY)
           rw [hkf] at this
           exact this
         · rw [zs5]
           simp only [D.Item.upd, D.Item.pv]
           rw [show nn + 1 + m = (nn + m) + 1 by omega, eset, ← hHlen]
           exact d1 m H0
         · simp only [List.map_cons, z4g, D.Item.pv]
           have := d2 H0
           rw [z13u] at this
           rw [← hHlen]
           exact this
         · simp only [D.heapTo, D.Item.upd]
           rw [show nn + 1 + m = (nn + m) + 1 by omega, eset]
           exact d3 m
         · rw [d4]; exact ((put_H _ _ _).2.2).trans hs.p
         · rw [List.map_cons]
           simp only [fpOf, D.Item.wr, D.Item.rd]
           rw [← hHlen]; exact g2
       | false =>
         rw [hk] at h
         simp only [cond_false] at h
         split at h
         · rename_i t x y ho
           split at h
           · rename_i hd
             obtain ⟨b, e, ob', h1, h2⟩ := z1cb ho hkw h
             obtain ⟨ob, hob⟩ := h2.ob
             have hlt : b < σ.H.length := by rw [← hHlen]; exact h2.lt
             obtain ⟨its, nn, σ', ⟨d1, d2, d3, d4⟩, g2, g3⟩ := zl0 hV l (i + 1) (z1d6 hs.wf b (o := .ob e ob') h2.wf) h1
             rw [z13d, hs.flat] at d1 d2 d3
             have eset : ∀ m, (σ.flat.H ++ List.replicate m AObj.gone).set b (.row ob'.cells e) = σ.flat.H.set b (.row ob'.cells e) ++ List.replicate m .gone := fun m => by
               rw [List.set_append_left _ _ (by rw [hlenf]; exact hlt)]
             refine ⟨D.Item.ef (.tup []) [(b, ob'.cells, e)] [] :: its, nn, σ', ⟨fun m H0 => ⟨⟨hg, ?_⟩, ?_⟩, fun H0 => ?_, fun m => ?_, ?_⟩, g2, g3⟩
             · intro Y hY
               have hh : (σ1.keep (o.looksAt ops)).flat.H = σ.flat.H := by rw [hkf]; rfl
               have := h2.step Y (by rw [hY b (by simp), List.getElem?_append_left (by rw [hlenf]; exact hlt), hh])
               rw [hkf] at this
               intro c a w K Q hr hK
               exact this c a w K Q hr fun w' hg' hx => hK undef c w' (.inr hd) hg' hx
             · rw [zs5, hd]
               simp only [D.Item.upd, D.setAll, List.foldl_cons, List.foldl_nil, AS.put]
               rw [eset]
               exact d1 m H0
             · simp only [List.map_cons, z4g, hd, AS.put]
               have := d2 H0
               rw [z13u] at this
               exact this
             · simp only [D.heapTo, D.Item.upd, D.setAll, List.foldl_cons, List.foldl_nil]
               rw [eset]; exact d3 m
             · rw [d4]; exact hs.p
           · cases h
         · rename_i fo xs ats ho
           split at h
           · rename_i f caps hfo
             cases ha : anyOk V.E f σ1.H (xs.toList.map (σ1.keep (o.looksAt ops)).eval ++ caps) with
             | true => rw [ha] at h; exact q0 h
             | false =>
               rw [ha] at h
               simp only [cond_false] at h
               have hwf := z0u hkw fo
               rw [hfo] at hwf
               simp only [TV.wf] at hwf
               obtain ⟨t, us, q, L, h1, h2⟩ := z19w hV.D hkw (fun a ha => by
                 rcases List.mem_append.1 ha with ha | ha
                 · simp only [List.mem_map] at ha
                   obtain ⟨x, _, rfl⟩ := ha
                   exact z0u hkw x
                 · exact z3u.1 hwf a ha) h
               have hkH : (σ1.keep (o.looksAt ops)).H.length = σ.H.length := hHlen
               have hwn : TS.wf { σ1.put o.dst t with H := ztb us (σ1.H ++ List.replicate q .gone) } := ⟨(z7j hs.wf o.dst h2.wf).slots, z1f1 us h2.uwf fun x hx => by
                 rcases List.mem_append.1 hx with hx | hx
                 · exact hs.wf.H x hx
                 · rw [List.eq_of_mem_replicate hx]; trivial⟩
               obtain ⟨its, nn, σ', ⟨d1, d2, d3, d4⟩, g2, g3⟩ := zl0 hV l (i + 1) hwn h1
               have ef : TS.flat { σ1.put o.dst t with H := ztb us (σ1.H ++ List.replicate q .gone) } = { σ.flat.put o.dst t.pv with H := D.setAll (usOf us) (σ.flat.H ++ List.replicate q .gone) } := by
                 have e1 : (ztb us (σ1.H ++ List.replicate q .gone)).map TOb.flat = D.setAll (usOf us) (σ.flat.H ++ List.replicate q .gone) := by
                   rw [z19l, hs.H, List.map_append, List.map_replicate]; rfl
                 have e2 := hs.flat
                 have e3 := zk0 σ1 o.dst t
                 rw [e2] at e3
                 simp only [TS.flat] at e3 e1 ⊢
                 rw [e1]
                 have := congrArg (fun τ : AS => ({ τ with H := D.setAll (usOf us) (σ.H.map TOb.flat ++ List.replicate q .gone) } : AS)) e3
                 simpa only using this
               rw [ef] at d1 d2 d3
               have eset : ∀ m, D.setAll (usOf us) (σ.flat.H ++ List.replicate (q + nn + m) AObj.gone) = D.setAll (usOf us) (σ.flat.H ++ List.replicate q .gone) ++ List.replicate (nn + m) .gone := fun m => by
                 have key' : ∀ (m : Nat) (us : List (Nat × TypeId × Ob)) (H : List AObj), (∀ b, b ∈ us.map (·.1) → b < H.length) → D.setAll (usOf us) (H ++ List.replicate m AObj.gone) = D.setAll (usOf us) H ++ List.replicate m .gone := by
                   intro m us
                   induction us with
                   | nil => intro H _; rfl
                   | cons u us ih =>
                     intro H hl
                     show D.setAll (usOf us) ((H ++ _).set u.1 _) = D.setAll (usOf us) (H.set u.1 _) ++ _
                     rw [List.set_append_left _ _ (hl u.1 (by simp))]
                     exact ih _ fun b hb => by rw [List.length_set]; exact hl b (by simp [hb])
                 rw [show q + nn + m = q + (nn + m) by omega, ← List.replicate_append_replicate, ← List.append_assoc]
                 exact key' (nn + m) us _ fun b hb => by
                   have := h2.lt b (List.mem_append_left _ hb)
                   rw [List.length_append, List.length_replicate, hlenf, ← hkH]; exact this
               have hus : (usOf us).map (·.1) = us.map (·.1) := by simp [usOf]
               refine ⟨D.Item.ef t.pv (usOf us) L :: its, q + nn, σ', ⟨fun m H0 => ⟨⟨hg, ?_⟩, ?_⟩, fun H0 => ?_, fun m => ?_, ?_⟩, ?_, g3⟩
               · intro Y hY c a w K Q hr hK
                 have hh : (σ1.keep (o.looksAt ops)).flat.H = σ.flat.H := by rw [hkf]; rfl
                 have hrel : RelC w c { (σ1.keep (o.looksAt ops)).flat with H := Y } a := by rw [hkf]; exact hr
                 obtain ⟨cv, e1, e2, e3⟩ := zzr (xs := xs) hrel hfo
                 unfold Oper.wp
                 rw [z14s ho h2.can e1]
                 show Calls P f (xs.map a.eval ++ cv) w _
                 refine (h2.calls Y w c _ (fun b hb hlt => ?_) (fun j hj => ?_) hrel.1 e2 e3).mono ?_
                 · rw [hY b (by rw [hus]; exact hb), hh, List.getElem?_append_left (by rw [hlenf, ← hkH]; exact hlt)]
                 · rw [hY _ (by rw [hus]; exact h2.has j hj), hkH, List.getElem?_append_right (by rw [hlenf]; omega), hlenf, Nat.add_sub_cancel_left, List.getElem?_replicate, if_pos (by omega)]
                 · rintro ed w' ⟨v, c', rfl, hv, hg', hx⟩
                   exact hK v c' w' (.inl hv) hg' hx
               · rw [zs5]
                 simp only [D.Item.upd, D.Item.pv]
                 rw [eset]
                 exact d1 m H0
               · simp only [List.map_cons, z4g, D.Item.pv]
                 have := d2 H0
                 rw [z13u] at this
                 exact this
               · simp only [D.heapTo, D.Item.upd]
                 rw [eset]; exact d3 m
               · rw [d4]; exact ((put_H _ _ _).2.2).trans hs.p
               · rw [List.map_cons]
                 simp only [fpOf, D.Item.wr, D.Item.rd, hus]
                 exact g2
           · cases h
         · exact q0 h
def znr (ops : Array Oper) : List Nat → Nat → Bool
 | [], lo => Nat.beq lo ops.size
 | 0 :: ps, lo => Nat.blt lo ops.size && barOk ops lo && znr ops ps (lo + 1)
 | (m + 1) :: ps, lo => Nat.ble (lo + (m + 1)) ops.size && D.drawOkAt ops lo (lo + (m + 1)) && sepOk ops lo (lo + (m + 1)) && znr ops ps (lo + (m + 1))
noncomputable def zgv {R : Type} (P : Program) (V : Env) (own : List Nat) (ops : Array Oper) (k : TS → Option R) : List Nat → Nat → TS → Option R
 | [], _, σ => k σ
 | 0 :: ps, lo, σ => match ops[lo]? with
   | some o => z12h ops o σ σ (fun σ => effK P V own lo o σ fun σ' => zgv P V own ops k ps (lo + 1) σ') (fun σ => zgv P V own ops k ps (lo + 1) (σ.put o.dst (.tup [])))
   | none => none
 | (m + 1) :: ps, lo, σ => drawK P V own ops (seg ops lo (lo + (m + 1))) lo σ fun fs σ' => bif zw9 ops fs lo then zgv P V own ops k ps (lo + (m + 1)) σ' else none
theorem z1pe {R : Type} {P : Program} {V : Env} (hV : EnvsOK P V) {own : List Nat} {ops : Array Oper} {k : TS → Option R} {r : R} : ∀ (ps : List Nat) (lo : Nat) {σ : TS}, σ.wf → zgv P V own ops k ps lo σ = some r → ∃ σ', σ'.wf ∧ k σ' = some r := by
 intro ps
 induction ps with
 | nil => intro lo σ hw h; exact ⟨σ, hw, by simpa only [zgv] using h⟩
 | cons m ps ih =>
   intro lo σ hw h
   cases m with
   | zero =>
     simp only [zgv] at h
     split at h
     · obtain ⟨g, σ', hg, hs, h⟩ := zlr hw (fun _ _ e => e) h
       cases g with
       | true =>
         simp only [if_true] at h
         obtain ⟨_, σ2, h1, h2⟩ := zwn hV hs.wf h
         exact ih _ h1 h2
       | false =>
         simp only [Bool.false_eq_true, if_false] at h
         exact ih _ (z7j hs.wf _ z12m) h
     · cases h
   | succ m =>
     simp only [zgv] at h
     obtain ⟨its, _, σ', _, g2, g3⟩ := zl0 hV _ _ hw h
     cases hc : zw9 ops (its.map fpOf) lo with
     | false => rw [hc] at g2; cases g2
     | true => rw [hc] at g2; exact ih _ g3 g2
theorem z1mc (l : List Oper) (ps : List PV) (σ : AS) : (z4g l ps σ).n = σ.n := (zaz l ps σ).1
theorem z1lf {R : Type} {P : Program} {V : Env} (hV : EnvsOK P V) {own : List Nat} {ops : Array Oper} {k : TS → Option R} {r : R} {Q' : Exit → Act → World → Prop} {n : Nat} (hdn : ∀ o, o ∈ ops.toList → o.dst.all (fun d => decide (d < n)) = true) :
   ∀ (ps : List Nat) (lo : Nat) {σ : TS} {c : Cx} {a : Act} {w : World} (fuel : Nat) (listed : Array Bool), σ.n = n → znr ops ps lo = true → zgv P V own ops k ps lo σ = some r → σ.wf → RelT w c σ a →
   listed.size = ops.size → (∀ j, j < ops.size → (listed.getD j false = true ↔ j < lo)) → zt3 ops listed → left ops listed ≤ fuel →
   (∀ c' a' w' σ', k σ' = some r → σ'.wf → RelT w' c' σ' a' → ExtP σ.p w c w' c' → a'.defers = a.defers → Q' .normal a' w') → wpAny P .any ops Q' fuel listed a w := by
 intro ps
 induction ps with
 | nil =>
   intro lo σ c a w fuel listed _ hp h hw hr hs hl hc hf hK
   simp only [znr] at hp
   simp only [zgv] at h
   have e := Nat.eq_of_beq_eq_true hp
   exact z1qo hs (fun j hj => (hl j hj).2 (by omega)) (hK c a w σ h hw hr (ExtP.refl _ _ _) rfl) fuel
 | cons m ps ih =>
   intro lo σ c a w fuel listed hn hp h hw hr hs hl hc hf hK
   cases m with
   | zero =>
     simp only [znr, Bool.and_eq_true] at hp
     simp only [zgv] at h
     have hlt : lo < ops.size := Nat.blt_eq.mp hp.1.1
     have ho : ops[lo]? = some ops[lo] := by simp [hlt]
     rw [ho] at h
     simp only at h
     obtain ⟨g, σ', hg, hsm, h⟩ := zlr hw (fun _ _ e => e) h
     have hn' : σ'.n = n := by
       have e2 : σ'.n = σ.n := congrArg AS.n hsm.flat
       exact e2.trans hn
     refine z1qc hp.1.2 ho hs hl hc hf fun fuel' listed' s1 s2 s3 s4 => ?_
     unfold wpOp
     rw [ho]
     simp only
     rw [z2p hr.2.2 hg]
     cases g with
     | true =>
       simp only [if_true] at h ⊢
       refine .inl ((zwn hV hsm.wf h).1 c a w _ Q' (hr.same hsm) fun c' a' w' σ2 hk hw2 hr2 hx hdf => ?_)
       have e2 : σ2.p = σ.p := ((hr.same hsm).p hr2 hx).trans hsm.p
       rw [hsm.p] at hx
       exact ih (lo + 1) fuel' listed' (hk.2.trans hn') hp.2 hk.1 hw2 hr2 s1 s2 s3 s4 fun c3 a3 w3 σ3 hk3 hw3 hr3 hx3 hd3 => hK c3 a3 w3 σ3 hk3 hw3 hr3 (ExtP.trans hx (e2 ▸ hx3)) (hd3.trans hdf)
     | false =>
       simp only [Bool.false_eq_true, if_false] at h ⊢
       refine ih (lo + 1) fuel' listed' ?_ hp.2 h (z7j hsm.wf _ z12m) (zlp _ (hr.same hsm) (by simp only [TV.pv, TV.pvs]; exact zoa)) s1 s2 s3 s4 fun c3 a3 w3 σ3 hk3 hw3 hr3 hx3 hd3 => hK c3 a3 w3 σ3 hk3 hw3 hr3 ?_ (hd3.trans (Act.put_defers' _ _ _))
       · rw [(put_H _ _ _).2.1]; exact hn'
       · rw [(put_H _ _ _).2.2, hsm.p] at hx3; exact hx3
   | succ m =>
     simp only [znr, Bool.and_eq_true] at hp
     simp only [zgv] at h
     obtain ⟨⟨⟨hp1, hp2⟩, hp3⟩, hp4⟩ := hp
     have hle' := Nat.le_of_ble_eq_true hp1
     obtain ⟨its, nn, σ', ⟨d1, d2, d3, d4⟩, g2, g3⟩ := zl0 hV _ _ hw h
     cases hcf : zw9 ops (its.map fpOf) lo with
     | false => rw [hcf] at g2; cases g2
     | true =>
       rw [hcf] at g2
       rw [z1ch] at hcf
       simp only [cond_true] at g2
       have hseg : ∀ o, o ∈ seg ops lo (lo + (m + 1)) → o ∈ ops.toList := fun o ho => List.mem_of_mem_drop (List.mem_of_mem_take ho)
       have hheap := d3 0
       simp only [Nat.add_zero, List.replicate_zero, List.append_nil] at hheap
       have hdoes := d1 0 (σ.flat.H ++ List.replicate nn .gone)
       rw [Nat.add_zero] at hdoes
       obtain ⟨gd, xr⟩ := z1f3 hr.2.1 nn
       refine D.seg_draw (σ := { σ.flat with H := σ.flat.H ++ List.replicate nn .gone }) its hp2 hp3 (by omega) hle' (fun o ho => by
           have := hdn o (hseg o ho)
           rw [← hn] at this; exact this) hcf hdoes (left ops listed) fuel listed { c with m := c.m ++ List.replicate nn none } a w rfl hf ?_ ?_
       · refine ⟨?_, hr.2.2.1, hs, fun t ht _ => ?_, fun j o it t hjl hD ho => ?_, hc, fun j hjl hjs => (hl j hjs).2 hjl, fun j hD => ?_⟩
         · have e0 : D.heapAt (fun j => listed.getD j false) its lo (σ.flat.H ++ List.replicate nn .gone) = σ.flat.H ++ List.replicate nn .gone := by
             have := D.heapTo_take its lo 0 (σ.flat.H ++ List.replicate nn .gone)
             have none : ∀ (l : List D.Item) (j : Nat) (X : List AObj), (∀ k, j ≤ k → listed.getD k false = false) → D.heapAt (fun j => listed.getD j false) l j X = X := by
               intro l
               induction l with
               | nil => intro j X _; rfl
               | cons a l ih =>
                 intro j X hX
                 simp only [D.heapAt, hX j (Nat.le_refl _), cond_false]
                 exact ih _ _ fun k hk => hX k (by omega)
             refine none its lo _ fun k hk => ?_
             cases hD : listed.getD k false with
             | false => rfl
             | true =>
               have := (hl _ (zlj hs hD)).1 hD; omega
           rw [e0]; exact gd
         · have := hr.2.2.eval (.tmp t)
           have h2 : VR w c (σ.flat.get t) (a.tmps.getD t undef) := by simpa only [AS.eval, Act.eval] using this
           exact h2.ext xr
         · have hjs := zlj hs hD
           have := (hl j hjs).1 hD; omega
         · have hjs := zlj hs hD
           have := (hl j hjs).1 hD; omega
       · intro fuel' listed' c' a' w' s1 s2 s3 s4 s5 s6 s7
         have e4 : D.behind (seg ops lo (lo + (m + 1))) its { σ.flat with H := σ.flat.H ++ List.replicate nn .gone } = σ'.flat := by
           simp only [D.behind]
           rw [hheap, z13u]
           exact d2 _
         rw [e4] at s5
         have hx : ExtP σ.p w c w' c' := ext_p hr.noT (xr.trans s6)
         have hr' : RelT w' c' σ' a' := ⟨by rw [d4, ← hr.1]; exact hx.pn, s5⟩
         refine ih (lo + (m + 1)) fuel' listed' ?_ hp4 g2 g3 hr' s1 s2 s3 s4 fun c3 a3 w3 σ3 hk3 hw3 hr3 hx3 hd3 => hK c3 a3 w3 σ3 hk3 hw3 hr3 (ExtP.trans hx (d4 ▸ hx3)) (hd3.trans s7)
         have e5 := congrArg AS.n (d2 [])
         have e6 : σ'.n = σ.n := by
           have h1 : (z4g (seg ops lo (lo + (m + 1))) (its.map D.Item.pv) σ.flat).n = σ.flat.n := z1mc _ _ _
           exact (show σ'.n = _ from e5.symm).trans h1
         exact e6.trans hn
end Go.Tm
set_option linter.unusedSimpArgs false
set_option linter.unusedVariables false
namespace Go.Tm
open Go.Ab
theorem RelT.andX {w w' w2 : World} {c c' c2 : Cx} {σ σ' : TS} {a a' : Act} (hr : RelT w c σ a) (hr' : RelT w' c' σ' a') (hx : ExtP σ.p w c w' c') (h2 : ExtP σ'.p w' c' w2 c2) : ExtP σ.p w c w2 c2 := by
 rw [hr.p hr' hx] at h2
 exact ExtP.trans hx h2
def mark (D : Nat) : Deferred := { target := .collected D, args := #[] }
def Mk (w w' : World) (c' : Cx) (d d' : List Deferred) : Prop :=
 ∃ l : List Nat, d' = l.map mark ++ d ∧ l.Nodup ∧ ∀ D, D ∈ l → w.heap.size ≤ D ∧ w'.heap[D]? = some (.deferred (some [])) ∧ some D ∉ c'.m
theorem Mk.of_eq {w w' : World} {c' : Cx} {d d' : List Deferred} (h : d' = d) : Mk w w' c' d d' := ⟨[], by simp [h], List.nodup_nil, fun D h => by cases h⟩
theorem Mk.ext {p : Nat} {w w1 w2 : World} {c1 c2 : Cx} {d d' : List Deferred} (h : Mk w w1 c1 d d') (x : ExtP p w1 c1 w2 c2) : Mk w w2 c2 d d' := by
 obtain ⟨l, h1, h2, h3⟩ := h
 refine ⟨l, h1, h2, fun D hD => ?_⟩
 obtain ⟨g1, g2, g3⟩ := h3 D hD
 have hlt : D < w1.heap.size := (Array.getElem?_eq_some_iff.1 g2).1
 exact ⟨g1, (x.blocks D hlt g3).trans g2, fun h => (x.new D h).elim g3 fun h' => absurd hlt (Nat.not_lt.2 h')⟩
theorem Mk.trans {p : Nat} {w w1 w2 : World} {c1 c2 : Cx} {d d1 d2 : List Deferred} (hs : w.heap.size ≤ w1.heap.size) (h : Mk w w1 c1 d d1) (x : ExtP p w1 c1 w2 c2) (h2 : Mk w1 w2 c2 d1 d2) : Mk w w2 c2 d d2 := by
 obtain ⟨l, e1, n1, g1⟩ := h.ext x
 obtain ⟨l', e2, n2, g2⟩ := h2
 obtain ⟨l0, e0, _, g0⟩ := h
 refine ⟨l' ++ l, by rw [e2, e1]; simp, List.nodup_append.2 ⟨n2, n1, fun a ha b hb e => ?_⟩, fun D hD => ?_⟩
 · subst e
   have := (g2 a ha).1
   have h3 : l0 = l := by
     have h4 : l0.map mark = l.map mark := List.append_cancel_right (e0.symm.trans e1)
     exact List.map_inj_right (fun x y h => by simpa [mark] using h) |>.1 h4
   subst h3
   exact absurd (Array.getElem?_eq_some_iff.1 (g0 a hb).2.1).1 (Nat.not_lt.2 this)
 · rcases List.mem_append.1 hD with hD | hD
   · exact ⟨Nat.le_trans hs (g2 D hD).1, (g2 D hD).2⟩
   · exact g1 D hD
def RecOK (ro : Option Nat) (w : World) (c : Cx) : Prop :=
 match ro with
 | none => True
 | some l => some l ∉ c.m ∧ ∃ r, w.heap[l]? = some (.loop r)
theorem RecOK.ext {p : Nat} {ro : Option Nat} {w w' : World} {c c' : Cx} (h : RecOK ro w c) (x : ExtP p w c w' c') : RecOK ro w' c' := by
 cases ro with
 | none => trivial
 | some l =>
   obtain ⟨h1, r, h2⟩ := h
   have hlt : l < w.heap.size := (Array.getElem?_eq_some_iff.1 h2).1
   exact ⟨fun h => (x.new l h).elim h1 fun h' => absurd hlt (Nat.not_lt.2 h'), r, (x.blocks l hlt h1).trans h2⟩
def TAW (P : Program) (x : Code) (σ : TS) (Q : Exit → TS → Prop) : Prop :=
 ∀ c a w (Q' : Exit → Act → World → Prop), RelT w c σ a → σ.wf →
   (∀ e c' a' w' σ', Q e σ' → σ'.wf → RelT w' c' σ' a' → ExtP σ.p w c w' c' → Mk w w' c' a.defers a'.defers → Q' e a' w') → ∀ ro, RecOK ro w c → x.wpIn (Wd ro) 0 P Q' a w
theorem TAW.mono {P : Program} {x : Code} {σ : TS} {Q R : Exit → TS → Prop} (h : TAW P x σ Q) (hq : ∀ e σ, Q e σ → R e σ) : TAW P x σ R :=
 fun c a w Q' hr hw hK => h c a w Q' hr hw fun e c' a' w' σ' hQ => hK e c' a' w' σ' (hq _ _ hQ)
theorem TAW.wk {P : Program} {x : Code} {σ σ2 : TS} {Q : Exit → TS → Prop} (hk : Wk σ σ2) (h : TAW P x σ2 Q) : TAW P x σ Q := by
 intro c a w Q' hr hw hK ro hro
 obtain ⟨c2, hr2, hx⟩ := hk.2 w c a hr
 have h0 := hx w c (ExtP.refl _ _ _)
 exact h c2 a w Q' hr2 hk.1 (fun e c' a' w' σ' hQ hw' hr' hx' hd => hK e c' a' w' σ' hQ hw' hr' (hr.andX hr2 h0 hx') hd) ro (hro.ext h0)
def tthn (N : TS → Prop) (Q : Exit → TS → Prop) : Exit → TS → Prop
 | .normal, σ => N σ
 | e, σ => Q e σ
theorem TAW.seq {P : Program} {x y : Code} {σ : TS} {Q : Exit → TS → Prop} (h : TAW P x σ (tthn (fun σ' => TAW P y σ' Q) Q)) : TAW P (.seq x y) σ Q := by
 intro c a w Q' hr hw hK ro hro
 refine wpIn_seq (h c a w _ hr hw (fun e c' a' w' σ' hQ hw' hr' hx hd => ?_) ro hro)
 cases e <;> first | exact hK _ c' a' w' σ' hQ hw' hr' hx hd | skip
 exact hQ c' a' w' _ hr' hw' (fun e2 c2 a2 w2 σ2 hQ2 hw2 hr2 hx2 hd2 => hK e2 c2 a2 w2 σ2 hQ2 hw2 hr2 (hr.andX hr' hx hx2) (hd.trans hx.size hx2 hd2)) ro (hro.ext hx)
def z1ir (id : Nat) (Q : Exit → TS → Prop) : Exit → TS → Prop
 | .exit id', σ => bif Nat.beq id' id then Q .normal σ else Q (.exit id') σ
 | e, σ => Q e σ
theorem TAW.block {P : Program} {id : Nat} {x : Code} {σ : TS} {Q : Exit → TS → Prop} (h : TAW P x σ (z1ir id Q)) : TAW P (.block id x) σ Q := by
 intro c a w Q' hr hw hK ro hro
 refine wpIn_block (h c a w _ hr hw (fun e c' a' w' σ' hQ hw' hr' hx hd => ?_) ro hro)
 cases e with
 | exit id' =>
   simp only [z1ir] at hQ
   simp only [Exit.inBlock]
   split
   · rename_i e
     have : Nat.beq id' id = true := by rw [e]; exact Nat.beq_refl id
     rw [this] at hQ; exact hK _ c' a' w' σ' hQ hw' hr' hx hd
   · rename_i e
     have : Nat.beq id' id = false := by
       cases hb : Nat.beq id' id with
       | false => rfl
       | true => exact absurd (Nat.eq_of_beq_eq_true hb) e
     rw [this] at hQ; exact hK _ c' a' w' σ' hQ hw' hr' hx hd
 | _ => exact hK _ c' a' w' σ' hQ hw' hr' hx hd
def tNoGo (Q : Exit → TS → Prop) : Exit → TS → Prop
 | .goto _, _ => False
 | e, σ => Q e σ
theorem TAW.scope {P : Program} {x : Code} {σ : TS} {Q : Exit → TS → Prop} (h : TAW P x σ (tNoGo Q)) : TAW P (.scope x) σ Q := by
 intro c a w Q' hr hw hK ro hro
 refine z1c5 (h c a w _ hr hw (fun e c' a' w' σ' hQ hw' hr' hx hd => ?_) ro hro)
 cases e <;> first | exact hQ.elim | exact hK _ c' a' w' σ' hQ hw' hr' hx hd
theorem TAW.cond {P : Program} {x : Operand} {t e : Code} {σ : TS} {Q : Exit → TS → Prop} {b : Bool} (hc : σ.eval x = .v .bool b) (h : TAW P (if b then t else e) σ Q) : TAW P (.cond x t e) σ Q := by
 intro c a w Q' hr hw hK ro hro
 have he := hr.2.2.eval x
 rw [z0i hc (by simp)] at he
 simp only [TV.pv, pvU, VR] at he
 exact wpIn_cond he.1 (h c a w Q' hr hw hK ro hro)
theorem TAW.region {R : Type} {P : Program} {V : Env} (hV : EnvsOK P V) {own : List Nat} {id : Nat} {ops : Array Oper} {σ : TS} {k : TS → Option R} {r : R} (hcm : calm ops.toList = true) (h : opsK P V own ops ops.toList 0 σ k = some r) :
   TAW P (.region id ops false) σ (fun e σ' => e = .normal ∧ k σ' = some r) := by
 intro c a w Q' hr hw hK ro _
 refine wpIn_mono (Q := fun e a w => e = .normal ∧ Q' e a w) (wpIn_region (z1c4 hcm z1ms _ _ _ ?_)) fun _ _ _ h => h.2
 have := (zrq hV ops.toList 0 (by simp) hw h).2 (Q' := fun e a w => e = .normal ∧ Q' e a w) hr fun c' a' w' σ' hk hw' hr' hx hd => ⟨rfl, hK .normal c' a' w' σ' ⟨rfl, hk⟩ hw' hr' hx (.of_eq hd)⟩
 rw [List.range_eq_range']
 simpa using this
theorem TAW.draw {R : Type} {P : Program} {V : Env} (hV : EnvsOK P V) {own ps : List Nat} {id : Nat} {ops : Array Oper} {σ : TS} {k : TS → Option R} {r : R} (hcm : calm ops.toList = true) (hm : P.follows .mixedOrders = true) (hok : znr ops ps 0 = true)
   (hdn : ops.toList.all (fun o => o.dst.all (fun d => decide (d < σ.n))) = true) (h : zgv P V own ops k ps 0 σ = some r) :
   TAW P (.region id ops true) σ (fun e σ' => e = .normal ∧ k σ' = some r) := by
 intro c a w Q' hr hw hK ro _
 have hx0 := zhm hr.2.1 (w.drawn + 1)
 have hr0 : RelT { w with drawn := w.drawn + 1 } c σ a := ⟨hr.1, hx0.1, hr.2.2.ext hx0.2⟩
 refine wpIn_mono (Q := fun e a w => e = .normal ∧ Q' e a w) (wpIn_region_any hm (z1cy hcm z1ms _ _ _ _ ?_)) fun _ _ _ h => h.2
 refine z1lf hV (n := σ.n) (fun o ho => List.all_eq_true.1 hdn o ho) ps 0 (c := c) ops.size _ rfl hok h hw hr0 (by simp) ?_ ?_ ?_ fun c' a' w' σ' hk hw' hr' hx hd => ⟨rfl, hK .normal c' a' w' σ' ⟨rfl, hk⟩ hw' hr' (hr.andX hr0 (ext_p hr.noT hx0.2) hx) (.of_eq hd)⟩
 · intro j hj
   simp only [Array.getD_eq_getD_getElem?, Array.getElem?_replicate, hj, if_true, Option.getD_some]; simp
 · intro j o e hD
   simp only [Array.getD_eq_getD_getElem?, Array.getElem?_replicate] at hD
   split at hD <;> simp at hD
 · unfold left
   refine Nat.le_trans (List.length_filter_le _ _) ?_
   simp
theorem TAW.skip {P : Program} {σ : TS} {Q : Exit → TS → Prop} (h : Q .normal σ) : TAW P .skip σ Q :=
 fun c a w _ hr hw hK ro _ => wpIn_skip (hK .normal c a w σ h hw hr (ExtP.refl _ _ _) (.of_eq rfl))
theorem TAW.label {P : Program} {l : Nat} {σ : TS} {Q : Exit → TS → Prop} (h : Q .normal σ) : TAW P (.label l) σ Q :=
 fun c a w _ hr hw hK ro _ => wpIn_label (hK .normal c a w σ h hw hr (ExtP.refl _ _ _) (.of_eq rfl))
theorem TAW.ret {P : Program} {σ : TS} {Q : Exit → TS → Prop} (h : Q .ret σ) : TAW P .ret σ Q :=
 fun c a w _ hr hw hK ro _ => wpIn_ret (hK .ret c a w σ h hw hr (ExtP.refl _ _ _) (.of_eq rfl))
theorem TAW.exit {P : Program} {id : Nat} {σ : TS} {Q : Exit → TS → Prop} (h : Q (.exit id) σ) : TAW P (.exit id) σ Q :=
 fun c a w _ hr hw hK ro _ => wpIn_exit (hK (.exit id) c a w σ h hw hr (ExtP.refl _ _ _) (.of_eq rfl))
def TLoop (P : Program) (x : Code) (σ : TS) (Q : Exit → TS → Prop) : Prop :=
 ∀ c a w (Q' : Exit → Act → World → Prop), RelT w c σ a → σ.wf →
   (∀ e c' a' w' σ', Q e σ' → σ'.wf → RelT w' c' σ' a' → ExtP σ.p w c w' c' → Mk w w' c' a.defers a'.defers → Q' e a' w') →
   ∀ (ro : Option Nat), RecOK ro w c → ∀ (b : Frame) (k : List Go.Item) (cs : List Frame), b.roundOf = ro → ∃ e a2 w2, Q' e a2 w2 ∧ ArrivesIn (Machine.fenced P (Wd ro)) P (lone (b.atR a (.code x :: .inLoop x :: k)) cs w) b k cs e a2 w2
theorem TLoop.step {P : Program} {x : Code} {σ : TS} {Q : Exit → TS → Prop} (h : TAW P x σ (tthn (fun σ' => TLoop P x σ' Q) Q)) : TLoop P x σ Q := by
 intro c a w Q' hrel hw hK ro hrec b k cs hro
 obtain ⟨e, a1, w1, hq, harr⟩ := h c a w
   (Exit.then (fun a2 w2 => ∃ σ2 c2, TLoop P x σ2 Q ∧ σ2.wf ∧ RelT w2 c2 σ2 a2 ∧ ExtP σ.p w c w2 c2 ∧ Mk w w2 c2 a.defers a2.defers) Q') hrel hw (fun e c2 a2 w2 σ2 hQ hw2 hr2 hx2 hd2 => by
   cases e with
   | normal => exact ⟨σ2, c2, hQ, hw2, hr2, hx2, hd2⟩
   | exit id => exact hK _ c2 a2 w2 σ2 hQ hw2 hr2 hx2 hd2
   | goto l => exact hK _ c2 a2 w2 σ2 hQ hw2 hr2 hx2 hd2
   | ret => exact hK _ c2 a2 w2 σ2 hQ hw2 hr2 hx2 hd2
   | panic ch => exact hK _ c2 a2 w2 σ2 hQ hw2 hr2 hx2 hd2
   | outgrown => exact hK _ c2 a2 w2 σ2 hQ hw2 hr2 hx2 hd2) ro hrec b (.inLoop x :: k) cs hro trivial (z1jn _ _)
 cases e with
 | normal =>
   obtain ⟨σ2, c2, hL, hw2, hr2, hx2, hd2⟩ := hq
   obtain ⟨e2, a2, w2, hq2, harr2⟩ := hL c2 a1 w1 Q' hr2 hw2 (fun e c3 a3 w3 σ3 hQ hw3 hr3 hx3 hd3 => hK e c3 a3 w3 σ3 hQ hw3 hr3 (hrel.andX hr2 hx2 hx3) (hd2.trans hx2.size hx3 hd3)) ro (hrec.ext hx2) b k cs hro
   have h1 : StepsIn (Machine.fenced P (Wd ro)) P (lone (b.atR a (.code x :: .inLoop x :: k)) cs w) (lone (b.atR a1 (.inLoop x :: k)) cs w1) := harr
   have h2 : StepsIn (Machine.fenced P (Wd ro)) P (lone (b.atR a1 (.inLoop x :: k)) cs w1) (lone (b.atR a1 (.code x :: .inLoop x :: k)) cs w1) := .one (zby ro P _) stepR_inLoop
   exact ⟨e2, a2, w2, hq2, .of_steps (h1.trans h2) harr2⟩
 | exit id => exact ⟨_, a1, w1, hq, .pass (x := .inLoop x) rfl (fun _ _ => .inl (by simp)) harr⟩
 | goto l => exact ⟨_, a1, w1, hq, .pass (x := .inLoop x) rfl (fun _ _ => .inl (by simp)) harr⟩
 | ret => exact ⟨_, a1, w1, hq, .pass (x := .inLoop x) rfl (fun _ _ => .inl (by simp)) harr⟩
 | panic ch => exact ⟨_, a1, w1, hq, .pass (x := .inLoop x) rfl (fun _ _ => .inl (by simp)) harr⟩
 | outgrown => exact ⟨_, a1, w1, hq, .pass (x := .inLoop x) rfl (fun _ _ => .inl (by simp)) harr⟩
theorem TLoop.wk {P : Program} {x : Code} {σ σ2 : TS} {Q : Exit → TS → Prop} (hk : Wk σ σ2) (h : TLoop P x σ2 Q) : TLoop P x σ Q := by
 intro c a w Q' hr hw hK ro hro
 obtain ⟨c2, hr2, hx⟩ := hk.2 w c a hr
 have h0 := hx w c (ExtP.refl _ _ _)
 exact h c2 a w Q' hr2 hk.1 (fun e c' a' w' σ' hQ hw' hr' hx' hd => hK e c' a' w' σ' hQ hw' hr' (hr.andX hr2 h0 hx') hd) ro (hro.ext h0)
theorem TLoop.loop {P : Program} {x : Code} {σ : TS} {Q : Exit → TS → Prop} (h : TLoop P x σ Q) : TAW P (.loop x) σ Q := by
 intro c a w Q' hrel hw hK ro hrec b k cs hro _ _
 obtain ⟨e, a2, w2, hq, harr⟩ := h c a w Q' hrel hw hK ro hrec b k cs hro
 exact ⟨e, a2, w2, hq, .of_steps (.one (zby ro P _) stepR_loop) harr⟩
def iter {S X : Type} (F : S → Option (S ⊕ X)) : Nat → S → Option X
 | 0, _ => none
 | n + 1, s => (F s).bind (Sum.elim (iter F n) some)
theorem z16d {S X : Type} {F : S → Option (S ⊕ X)} : ∀ {n m : Nat} {s : S} {x : X}, iter F n s = some x → n ≤ m → iter F m s = some x
 | 0, _, _, _, h, _ => by cases h
 | n + 1, 0, _, _, _, h => by omega
 | n + 1, m + 1, s, x, h, hm => by
   simp only [iter] at h ⊢
   rw [Option.bind_eq_some_iff] at h ⊢
   obtain ⟨y, h1, h2⟩ := h
   refine ⟨y, h1, ?_⟩
   cases y with
   | inl s' => exact z16d h2 (by omega)
   | inr z => exact h2
open Classical in
noncomputable def loopC {S X : Type} (F : S → Option (S ⊕ X)) (s : S) : Option X :=
 if h : ∃ n x, iter F n s = some x then some h.choose_spec.choose else none
theorem zkj {S X : Type} {F : S → Option (S ⊕ X)} {s : S} {x : X} : loopC F s = some x ↔ ∃ n, iter F n s = some x := by
 unfold loopC
 constructor
 · intro h
   split at h
   · rename_i hx
     cases h
     exact ⟨hx.choose, hx.choose_spec.choose_spec⟩
   · cases h
 · rintro ⟨n, h⟩
   have hx : ∃ n x, iter F n s = some x := ⟨n, x, h⟩
   rw [dif_pos hx]
   have h2 := hx.choose_spec.choose_spec
   have a := z16d h (Nat.le_max_left n hx.choose)
   have b := z16d h2 (Nat.le_max_right n hx.choose)
   rw [a] at b
   exact b.symm
theorem z2i {S X : Type} (F : S → Option (S ⊕ X)) (s : S) : loopC F s = (F s).bind (Sum.elim (loopC F) some) := by
 apply Option.ext
 intro x
 rw [zkj]
 constructor
 · rintro ⟨n, h⟩
   cases n with
   | zero => cases h
   | succ n =>
     simp only [iter] at h
     rw [Option.bind_eq_some_iff] at h ⊢
     obtain ⟨y, h1, h2⟩ := h
     refine ⟨y, h1, ?_⟩
     cases y with
     | inl s' => exact zkj.2 ⟨n, h2⟩
     | inr z => exact h2
 · intro h
   rw [Option.bind_eq_some_iff] at h
   obtain ⟨y, h1, h2⟩ := h
   cases y with
   | inl s' =>
     obtain ⟨n, hn⟩ := zkj.1 h2
     exact ⟨n + 1, by simp only [iter]; rw [h1]; exact hn⟩
   | inr z => exact ⟨1, by simp only [iter]; rw [h1]; exact h2⟩
def Den : Type 1 := {R : Type} → TS → (Exit → TS → Option R) → Option R
structure SoundD (P : Program) (x : Code) (d : Den) : Prop where
 taw : ∀ (R : Type) (σ : TS) (k : Exit → TS → Option R) (r : R), d σ k = some r → TAW P x σ (fun e σ' => k e σ' = some r)
 wf : ∀ (R : Type) (σ : TS) (k : Exit → TS → Option R) (r : R), σ.wf → d σ k = some r → ∃ e σ', σ'.wf ∧ k e σ' = some r
inductive HT : Type 1 where
 | no
 | two (a b : HT)
 | join (X : TS → XS) (a b : HT)
 | over (d : {R : Type} → TS → (Exit → TS → Option R) → Option R)
 | run (n : Nat)
 | reg (own ps : List Nat)
def HT.l : HT → HT
 | .two a _ | .join _ a _ => a
 | .run n => .run n
 | _ => .no
def HT.r : HT → HT
 | .two _ b | .join _ _ b => b
 | .run n => .run n
 | _ => .no
def HT.own : HT → List Nat
 | .reg own _ => own
 | _ => []
def HT.ps : HT → Nat → List Nat
 | .reg _ ps, _ => ps
 | _, 0 => []
 | _, n => [n]
def zwe (d : {R : Type} → TS → (Exit → TS → Option R) → Option R) : Nat → {R : Type} → TS → (Exit → TS → Option R) → Option R
 | 0, _, _, _ => none
 | n + 1, _, σ, k => d σ fun e σ' => match e with
   | .normal => zwe d n (σ'.keep (List.range σ'.n)) k
   | e => k e σ'
noncomputable def evalK (P : Program) (V : Env) : Code → HT → {R : Type} → TS → (Exit → TS → Option R) → Option R
 | .seq a b, h, _, σ, k => match h with
   | .join X ha hb => (evalK P V a ha σ (fun e σ' => (X σ).close e σ' some)).bind fun x => (X σ).open' x fun e σ' => match e with
     | .normal => evalK P V b hb σ' k
     | e => k e σ'
   | .over d => d σ k
   | h => evalK P V a h.l σ fun e σ' => match e with
     | .normal => evalK P V b h.r σ' k
     | e => k e σ'
 | .region _ ops draw, h, _, σ, k => bif calm ops.toList then match draw with
   | false => opsK P V h.own ops ops.toList 0 σ fun σ' => k .normal σ'
   | true => bif P.follows .mixedOrders && znr ops (h.ps ops.size) 0 && ops.toList.all (fun o => o.dst.all (fun d => decide (d < σ.n))) then zgv P V h.own ops (fun σ' => k .normal σ') (h.ps ops.size) 0 σ else none
   else none
 | .skip, _, _, σ, k => k .normal σ
 | .label _, _, _, σ, k => k .normal σ
 | .ret, _, _, σ, k => k .ret σ
 | .exit id, _, _, σ, k => k (.exit id) σ
 | .cond x t e, h, _, σ, k => match σ.eval x with
   | .v .bool b => cond b (evalK P V t h.l σ k) (evalK P V e h.r σ k)
   | _ => none
 | .block id x, h, _, σ, k => evalK P V x h σ fun e σ' => match e with
   | .exit id' => bif Nat.beq id' id then k .normal σ' else k (.exit id') σ'
   | e => k e σ'
 | .scope x, h, _, σ, k => evalK P V x h σ fun e σ' => match e with
   | .goto _ => none
   | e => k e σ'
 | .loop x, h, _, σ, k => match h with
   | .over d => d σ k
   | .run n => zwe (fun σ k => evalK P V x (.run n) σ k) n σ k
   | _ => none
 | .rangeFunc _ _ _ _, h, _, σ, k => match h with
   | .over d => d σ k
   | _ => none
 | _, _, _, _, _ => none
def HOK (P : Program) : Code → HT → Prop
 | .seq a b, h => match h with
   | .join X ha hb => (∀ σ, (X σ).OK) ∧ HOK P a ha ∧ HOK P b hb
   | .over d => SoundD P (.seq a b) d
   | h => HOK P a h.l ∧ HOK P b h.r
 | .cond _ t e, h => HOK P t h.l ∧ HOK P e h.r
 | .block _ x, h => HOK P x h
 | .scope x, h => HOK P x h
 | .loop x, h => match h with
   | .over d => SoundD P (.loop x) d
   | .run n => HOK P x (.run n)
   | _ => True
 | .rangeFunc g ps x y, h => match h with
   | .over d => SoundD P (.rangeFunc g ps x y) d
   | _ => True
 | _, _ => True
theorem zco (P : Program) (n : Nat) : ∀ x : Code, HOK P x (.run n)
 | .seq a b => ⟨zco P n a, zco P n b⟩
 | .cond _ t e => ⟨zco P n t, zco P n e⟩
 | .block _ x => zco P n x
 | .scope x => zco P n x
 | .loop x => zco P n x
 | .region _ _ _ | .skip | .label _ | .ret | .exit _ | .rangeFunc _ _ _ _ | .goto _ | .refuse _ => trivial
theorem zen (P : Program) : ∀ x : Code, HOK P x .no
 | .seq a b => ⟨zen P a, zen P b⟩
 | .cond _ t e => ⟨zen P t, zen P e⟩
 | .block _ x => zen P x
 | .scope x => zen P x
 | .loop _ => trivial
 | .region _ _ _ | .skip | .label _ | .ret | .exit _ | .rangeFunc _ _ _ _ | .goto _ | .refuse _ => trivial
theorem zsw {P : Program} {V : Env} (hV : EnvsOK P V) : ∀ (x : Code) (h : HT) {R : Type} {σ : TS} {k : Exit → TS → Option R} {r : R}, HOK P x h → evalK P V x h σ k = some r → TAW P x σ (fun e σ' => k e σ' = some r) := by
 intro x
 induction x with
 | skip => intro h R σ k r _ hh; simp only [evalK] at hh; exact TAW.skip hh
 | label l => intro h R σ k r _ hh; simp only [evalK] at hh; exact TAW.label hh
 | ret => intro h R σ k r _ hh; simp only [evalK] at hh; exact TAW.ret hh
 | exit id => intro h R σ k r _ hh; simp only [evalK] at hh; exact TAW.exit hh
 | region id ops draw =>
   intro h R σ k r _ hh
   simp only [evalK] at hh
   cases hcm : calm ops.toList with
   | false => rw [hcm] at hh; cases hh
   | true =>
   rw [hcm, cond_true] at hh
   cases draw with
   | false => exact (TAW.region hV hcm hh).mono fun e σ' ⟨h1, h2⟩ => by rw [h1]; exact h2
   | true =>
     simp only at hh
     cases hc : P.follows .mixedOrders && znr ops (h.ps ops.size) 0 && ops.toList.all (fun o => o.dst.all (fun d => decide (d < σ.n))) with
     | false => rw [hc] at hh; cases hh
     | true =>
       rw [hc] at hh
       simp only [Bool.and_eq_true] at hc
       exact (TAW.draw hV hcm hc.1.1 hc.1.2 hc.2 hh).mono fun e σ' ⟨h1, h2⟩ => by rw [h1]; exact h2
 | seq a b iha ihb =>
   intro h R σ k r hok hh
   have plain : ∀ ha hb : HT, HOK P a ha → HOK P b hb → (evalK P V a ha σ fun e σ' => match e with | .normal => evalK P V b hb σ' k | e => k e σ') = some r → TAW P (.seq a b) σ (fun e σ' => k e σ' = some r) := by
     intro ha hb h1 h2 hh
     refine TAW.seq ((iha ha h1 hh).mono fun e σ' he => ?_)
     cases e <;> first | exact he | skip
     exact ihb hb h2 he
   cases h with
   | no => simp only [evalK] at hh; exact plain _ _ hok.1 hok.2 hh
   | run n => simp only [evalK] at hh; exact plain _ _ hok.1 hok.2 hh
   | two ha hb => simp only [evalK] at hh; exact plain _ _ hok.1 hok.2 hh
   | reg o q => simp only [evalK] at hh; exact plain _ _ hok.1 hok.2 hh
   | over d => simp only [evalK] at hh; exact hok.taw R σ k r hh
   | join X ha hb =>
     simp only [evalK] at hh
     obtain ⟨hX, h1, h2⟩ := hok
     rw [Option.bind_eq_some_iff] at hh
     obtain ⟨x, hx, hh⟩ := hh
     rw [(hX σ).open'] at hh
     have h3 := iha ha h1 hx
     refine TAW.seq ?_
     intro c a' w Q' hr hw hK
     refine h3 c a' w Q' hr hw fun e c' a2 w' σ' he hw' hr' hxt hd => ?_
     obtain ⟨x', g1, g2, g3⟩ := (hX σ).close (X σ).T e σ' some x hw' he
     cases g1
     obtain ⟨c2, hr2, hx2⟩ := g3.2 w' c' a2 hr'
     have hx2' := hx2
     rw [hr.p hr' hxt] at hx2'
     refine hK e c2 a2 w' ((X σ).at' x).2 ?_ g3.1 hr2 (hx2' _ _ hxt) (hd.ext (hx2 _ _ (ExtP.refl _ _ _)))
     rw [g2] at hh
     cases e <;> first | exact hh | skip
     exact ihb hb h2 hh
 | cond x t e iht ihe =>
   intro h R σ k r hok hh
   simp only [evalK] at hh
   split at hh
   · rename_i b hb
     refine TAW.cond hb ?_
     cases b with
     | true => exact iht _ hok.1 hh
     | false => exact ihe _ hok.2 hh
   · cases hh
 | block id x ih =>
   intro h R σ k r hok hh
   simp only [evalK] at hh
   refine TAW.block ((ih h hok hh).mono fun e σ' he => ?_)
   cases e with
   | exit id' =>
     simp only [z1ir]
     simp only at he
     cases hb : Nat.beq id' id with
     | true => rw [hb] at he; exact he
     | false => rw [hb] at he; exact he
   | _ => exact he
 | scope x ih =>
   intro h R σ k r hok hh
   simp only [evalK] at hh
   refine TAW.scope ((ih h hok hh).mono fun e σ' he => ?_)
   cases e <;> first | exact he | cases he
 | loop x ih =>
   intro h R σ k r hok hh
   cases h with
   | over d => simp only [evalK] at hh; exact hok.taw R σ k r hh
   | run n =>
     simp only [evalK] at hh
     refine TLoop.loop ?_
     have key : ∀ (m : Nat) (σ : TS), zwe (fun σ k => evalK P V x (.run n) σ k) m σ k = some r → TLoop P x σ (fun e σ' => k e σ' = some r) := by
       intro m
       induction m with
       | zero => intro σ h; cases h
       | succ m ihm =>
         intro σ h
         simp only [zwe] at h
         refine TLoop.step ((ih (.run n) hok h).mono fun e σ' he => ?_)
         cases e <;> first | exact he | skip
         intro c a w Q' hr hw hK
         refine ihm _ he c a w Q' ?_ (z1ed hw _) hK
         refine ⟨hr.1, ?_⟩
         rw [z17u]
         exact hr.2.keep _
     exact key n σ hh
   | _ => simp [evalK] at hh
 | rangeFunc g ps x y _ _ =>
   intro h R σ k r hok hh
   cases h with
   | over d => simp only [evalK] at hh; exact hok.taw R σ k r hh
   | _ => simp [evalK] at hh
 | _ => intro h R σ k r hok hh; simp [evalK] at hh
theorem zxb {P : Program} {V : Env} (hV : EnvsOK P V) : ∀ (x : Code) (h : HT) {R : Type} {σ : TS} {k : Exit → TS → Option R} {r : R}, HOK P x h → σ.wf → evalK P V x h σ k = some r → ∃ e σ', σ'.wf ∧ k e σ' = some r := by
 intro x
 induction x with
 | skip => intro h R σ k r _ hw hh; simp only [evalK] at hh; exact ⟨_, σ, hw, hh⟩
 | label l => intro h R σ k r _ hw hh; simp only [evalK] at hh; exact ⟨_, σ, hw, hh⟩
 | ret => intro h R σ k r _ hw hh; simp only [evalK] at hh; exact ⟨_, σ, hw, hh⟩
 | exit id => intro h R σ k r _ hw hh; simp only [evalK] at hh; exact ⟨_, σ, hw, hh⟩
 | region id ops draw =>
   intro h R σ k r _ hw hh
   simp only [evalK] at hh
   cases hcm : calm ops.toList with
   | false => rw [hcm] at hh; cases hh
   | true =>
   rw [hcm, cond_true] at hh
   cases draw with
   | false => obtain ⟨σ', h1, h2⟩ := (zrq hV _ 0 (by simp) hw hh).1; exact ⟨_, σ', h1, h2⟩
   | true =>
     simp only at hh
     cases hc : P.follows .mixedOrders && znr ops (h.ps ops.size) 0 && ops.toList.all (fun o => o.dst.all (fun d => decide (d < σ.n))) with
     | false => rw [hc] at hh; cases hh
     | true =>
       rw [hc] at hh
       obtain ⟨σ', h1, h2⟩ := z1pe hV _ _ hw hh
       exact ⟨_, σ', h1, h2⟩
 | seq a b iha ihb =>
   intro h R σ k r hok hw hh
   have plain : ∀ ha hb : HT, HOK P a ha → HOK P b hb → (evalK P V a ha σ fun e σ' => match e with | .normal => evalK P V b hb σ' k | e => k e σ') = some r → ∃ e σ', σ'.wf ∧ k e σ' = some r := by
     intro ha hb h1 h2 hh
     obtain ⟨e, σ', hw', he⟩ := iha ha h1 hw hh
     cases e <;> first | exact ⟨_, σ', hw', he⟩ | skip
     exact ihb hb h2 hw' he
   cases h with
   | no => simp only [evalK] at hh; exact plain _ _ hok.1 hok.2 hh
   | run n => simp only [evalK] at hh; exact plain _ _ hok.1 hok.2 hh
   | two ha hb => simp only [evalK] at hh; exact plain _ _ hok.1 hok.2 hh
   | reg o q => simp only [evalK] at hh; exact plain _ _ hok.1 hok.2 hh
   | over d => simp only [evalK] at hh; exact hok.wf R σ k r hw hh
   | join X ha hb =>
     simp only [evalK] at hh
     obtain ⟨hX, h1, h2⟩ := hok
     rw [Option.bind_eq_some_iff] at hh
     obtain ⟨x, hx, hh⟩ := hh
     rw [(hX σ).open'] at hh
     obtain ⟨e, σ', hw', he⟩ := iha ha h1 hw hx
     obtain ⟨x', g1, g2, g3⟩ := (hX σ).close (X σ).T e σ' some x hw' he
     cases g1
     rw [g2] at hh
     cases e <;> first | exact ⟨_, _, g3.1, hh⟩ | skip
     exact ihb hb h2 g3.1 hh
 | cond x t e iht ihe =>
   intro h R σ k r hok hw hh
   simp only [evalK] at hh
   split at hh
   · rename_i b hb
     cases b with
     | true => exact iht _ hok.1 hw hh
     | false => exact ihe _ hok.2 hw hh
   · cases hh
 | block id x ih =>
   intro h R σ k r hok hw hh
   simp only [evalK] at hh
   obtain ⟨e, σ', hw', he⟩ := ih h hok hw hh
   cases e with
   | exit id' =>
     simp only at he
     cases hb : Nat.beq id' id with
     | true => rw [hb] at he; exact ⟨_, σ', hw', he⟩
     | false => rw [hb] at he; exact ⟨_, σ', hw', he⟩
   | _ => exact ⟨_, σ', hw', he⟩
 | scope x ih =>
   intro h R σ k r hok hw hh
   simp only [evalK] at hh
   obtain ⟨e, σ', h1, h2⟩ := ih h hok hw hh
   cases e <;> first | exact ⟨_, σ', h1, h2⟩ | cases h2
 | loop x ih =>
   intro h R σ k r hok hw hh
   cases h with
   | over d => simp only [evalK] at hh; exact hok.wf R σ k r hw hh
   | run n =>
     simp only [evalK] at hh
     have key : ∀ (m : Nat) (σ : TS), σ.wf → zwe (fun σ k => evalK P V x (.run n) σ k) m σ k = some r → ∃ e σ', σ'.wf ∧ k e σ' = some r := by
       intro m
       induction m with
       | zero => intro σ _ h; cases h
       | succ m ihm =>
         intro σ hw h
         simp only [zwe] at h
         obtain ⟨e, σ', hw', he⟩ := ih (.run n) hok hw h
         cases e <;> first | exact ⟨_, σ', hw', he⟩ | skip
         exact ihm _ (z1ed hw' _) he
     exact key n σ hw hh
   | _ => simp [evalK] at hh
 | rangeFunc g ps x y _ _ =>
   intro h R σ k r hok hw hh
   cases h with
   | over d => simp only [evalK] at hh; exact hok.wf R σ k r hw hh
   | _ => simp [evalK] at hh
 | _ => intro h R σ k r hok hw hh; simp [evalK] at hh
inductive Obl : Type 1 where
 | den (x : Code) (d : {R : Type} → TS → (Exit → TS → Option R) → Option R)
 | xs (X : TS → XS)
def Obl.OK (P : Program) : Obl → Prop
 | .den x d => SoundD P x d
 | .xs X => ∀ σ, (X σ).OK
def obl : Code → HT → List Obl
 | .seq a b, h => match h with
   | .join X ha hb => .xs X :: (obl a ha ++ obl b hb)
   | .over d => [.den (.seq a b) d]
   | .no => []
   | .run _ => []
   | .two ha hb => obl a ha ++ obl b hb
   | .reg _ _ => []
 | .cond _ t e, h => match h with
   | .no => []
   | .run _ => []
   | h => obl t h.l ++ obl e h.r
 | .block _ x, h => match h with
   | .no => []
   | .run _ => []
   | h => obl x h
 | .scope x, h => match h with
   | .no => []
   | .run _ => []
   | h => obl x h
 | .loop x, h => match h with
   | .over d => [.den (.loop x) d]
   | _ => []
 | .rangeFunc g ps x y, h => match h with
   | .over d => [.den (.rangeFunc g ps x y) d]
   | _ => []
 | _, _ => []
def z16h (P : Program) : List Obl → Prop
 | [] => True
 | o :: l => o.OK P ∧ z16h P l
theorem z1c1 {P : Program} : ∀ {l : List Obl}, z16h P l ↔ ∀ o, o ∈ l → o.OK P
 | [] => by simp [z16h]
 | o :: l => by simp [z16h, z1c1 (l := l)]
theorem z1k7 {P : Program} : ∀ (x : Code) (h : HT), (∀ o, o ∈ obl x h → o.OK P) → HOK P x h := by
 intro x
 induction x with
 | seq a b iha ihb =>
   intro h ho
   cases h with
   | no => exact ⟨zen P a, zen P b⟩
   | run n => exact ⟨zco P n a, zco P n b⟩
   | two ha hb => exact ⟨iha _ fun o h => ho o (List.mem_append_left _ h), ihb _ fun o h => ho o (List.mem_append_right _ h)⟩
   | reg _ _ => exact ⟨zen P a, zen P b⟩
   | over d => exact ho _ (List.mem_singleton.2 rfl)
   | join X ha hb => exact ⟨ho (.xs X) (List.mem_cons_self ..), iha _ fun o h => ho o (List.mem_cons_of_mem _ (List.mem_append_left _ h)), ihb _ fun o h => ho o (List.mem_cons_of_mem _ (List.mem_append_right _ h))⟩
 | cond x t e iht ihe =>
   intro h ho
   cases h with
   | no => exact ⟨zen P t, zen P e⟩
   | run n => exact ⟨zco P n t, zco P n e⟩
   | _ => exact ⟨iht _ fun o h => ho o (List.mem_append_left _ h), ihe _ fun o h => ho o (List.mem_append_right _ h)⟩
 | block id x ih =>
   intro h ho
   cases h with
   | no => exact zen P x
   | run n => exact zco P n x
   | _ => exact ih _ ho
 | scope x ih =>
   intro h ho
   cases h with
   | no => exact zen P x
   | run n => exact zco P n x
   | _ => exact ih _ ho
 | loop x ih =>
   intro h ho
   cases h with
   | over d => exact ho _ (List.mem_singleton.2 rfl)
   | run n => exact zco P n x
   | _ => trivial
 | rangeFunc g ps x y _ _ =>
   intro h ho
   cases h with
   | over d => exact ho _ (List.mem_singleton.2 rfl)
   | _ => trivial
 | _ => intro h _; trivial
theorem z0e {P : Program} {x : Code} {h : HT} (l : List Obl) (hl : obl x h = l) (ho : z16h P l) : HOK P x h := z1k7 x h (by rw [hl]; exact z1c1.1 ho)
def loopD (S : XE) (X : XS) (f : S.T → Option X.T) : {R : Type} → TS → (Exit → TS → Option R) → Option R := fun σ k => S.close σ fun s => (f s).bind fun x => X.open' x k
noncomputable def z1sg (P : Program) (V : Env) (x : Code) (h : HT) (S : XE) (X : XS) (s : S.T) : Option (S.T ⊕ X.T) :=
 evalK P V x h (S.st s) fun e σ' => match e with
   | .normal => S.close σ' fun s' => some (.inl s')
   | e => X.close e σ' fun x => some (.inr x)
theorem z1f {P : Program} {V : Env} (hV : EnvsOK P V) {x : Code} {h : HT} {S : XE} {X : XS} (hok : HOK P x h) (hS : S.OK) (hX : X.OK) (g : S.T → Option (S.T ⊕ X.T)) (hg : ∀ s, z1sg P V x h S X s = g s) :
   SoundD P (.loop x) (loopD S X (loopC g)) := by
 refine ⟨?taw, ?wf⟩
 case wf =>
   intro R σ k r hw hh
   simp only [loopD] at hh
   obtain ⟨s, h1, h2⟩ := hS R σ _ r hw hh
   rw [Option.bind_eq_some_iff] at h1
   obtain ⟨xx, h3, h4⟩ := h1
   obtain ⟨n, hn⟩ := zkj.1 h3
   have key : ∀ (n : Nat) (s : S.T) (xx : X.T), (S.st s).wf → iter g n s = some xx → (X.at' xx).2.wf := by
     intro n
     induction n with
     | zero => intro s xx _ h; cases h
     | succ n ih =>
       intro s xx hws hi
       simp only [iter] at hi
       rw [Option.bind_eq_some_iff] at hi
       obtain ⟨y, hy, hi⟩ := hi
       rw [← hg] at hy
       obtain ⟨e, σ', hw', he⟩ := zxb hV x h hok hws hy
       have fin : (X.close e σ' fun x => some (Sum.inr x)) = some y → (X.at' xx).2.wf := fun hc => by
         obtain ⟨x', g1, g2, g3⟩ := hX.close _ e σ' _ y hw' hc
         cases g1
         cases hi
         exact g3.1
       cases e with
       | normal =>
         obtain ⟨s', g1, g2⟩ := hS _ σ' _ y hw' he
         cases g1
         exact ih s' xx g2.1 hi
       | exit id => exact fin he
       | goto l => exact fin he
       | ret => exact fin he
       | panic ch => exact fin he
       | outgrown => exact fin he
   rw [hX.open'] at h4
   exact ⟨_, _, key n s xx h2.1 hn, h4⟩
 intro R σ k r hh
 simp only [loopD] at hh
 have key : ∀ (n : Nat) (s : S.T) (xx : X.T), iter g n s = some xx → TLoop P x (S.st s) (fun e σ' => k e σ' = some r) ∨ X.open' xx k ≠ some r := by
   intro n
   induction n with
   | zero => intro s xx h; cases h
   | succ n ih =>
     intro s xx hi
     by_cases hop : X.open' xx k = some r
     · refine .inl (TLoop.step ?_)
       simp only [iter] at hi
       rw [Option.bind_eq_some_iff] at hi
       obtain ⟨y, hy, hi⟩ := hi
       rw [← hg] at hy
       have h1 := zsw hV x h hok hy
       intro c a w Q' hr hw hK
       refine h1 c a w Q' hr hw fun e c' a2 w' σ' he hw' hr' hxt hd => ?_
       have fin : ∀ e, e ≠ .normal → (X.close e σ' fun x => some (Sum.inr x)) = some y → Q' e a2 w' := by
         intro e hne hc
         obtain ⟨x', g1, g2, g3⟩ := hX.close _ e σ' _ y hw' hc
         cases g1
         cases hi
         obtain ⟨c2, hr2, hx2⟩ := g3.2 w' c' a2 hr'
         have hx2' := hx2
         rw [hr.p hr' hxt] at hx2'
         refine hK e c2 a2 w' (X.at' xx).2 ?_ g3.1 hr2 (hx2' _ _ hxt) (hd.ext (hx2 _ _ (ExtP.refl _ _ _)))
         rw [hX.open', g2] at hop
         cases e <;> first | exact hop | exact absurd rfl hne
       cases e with
       | normal =>
         obtain ⟨s', g1, g2⟩ := hS _ σ' _ y hw' he
         cases g1
         refine hK .normal c' a2 w' σ' ?_ hw' hr' hxt hd
         rcases ih s' xx hi with h2 | h2
         · exact TLoop.wk g2 h2
         · exact absurd hop h2
       | exit id => exact fin _ (by simp) he
       | goto l => exact fin _ (by simp) he
       | ret => exact fin _ (by simp) he
       | panic ch => exact fin _ (by simp) he
       | outgrown => exact fin _ (by simp) he
     · exact .inr hop
 intro c a w Q' hr hw hK
 obtain ⟨s, h1, h2⟩ := hS R σ _ r hw hh
 rw [Option.bind_eq_some_iff] at h1
 obtain ⟨xx, h3, h4⟩ := h1
 obtain ⟨n, hn⟩ := zkj.1 h3
 rcases key n s xx hn with h5 | h5
 · exact TAW.wk h2 (TLoop.loop h5) c a w Q' hr hw hK
 · exact absurd h4 h5
def altX (f : TS → Bool) (X Y : TS → XS) : TS → XS := fun σ => bif f σ then X σ else Y σ
theorem z1p {X : XS} (h : X.OK) : ∀ σ : TS, ((fun _ => X) σ).OK := fun _ => h
theorem zej {f : TS → Bool} {X Y : TS → XS} (h : ∀ σ, (X σ).OK) (g : ∀ σ, (Y σ).OK) : ∀ σ, (altX f X Y σ).OK := fun σ => by
 unfold altX
 cases f σ with
 | true => exact h σ
 | false => exact g σ
def altD (f : TS → Bool) (d1 d2 : {R : Type} → TS → (Exit → TS → Option R) → Option R) : {R : Type} → TS → (Exit → TS → Option R) → Option R := fun σ k => bif f σ then d1 σ k else d2 σ k
theorem z1ef {P : Program} {x : Code} {f : TS → Bool} {d1 d2 : {R : Type} → TS → (Exit → TS → Option R) → Option R} (h1 : SoundD P x d1) (h2 : SoundD P x d2) : SoundD P x (altD f d1 d2) where
 taw := fun R σ k r h => by
   simp only [altD] at h
   cases hf : f σ with
   | true => rw [hf] at h; exact h1.taw R σ k r h
   | false => rw [hf] at h; exact h2.taw R σ k r h
 wf := fun R σ k r hw h => by
   simp only [altD] at h
   cases hf : f σ with
   | true => rw [hf] at h; exact h1.wf R σ k r hw h
   | false => rw [hf] at h; exact h2.wf R σ k r hw h
end Go.Tm
set_option linter.unusedSimpArgs false
set_option linter.unusedVariables false
namespace Go.Tm
open Go.Ab
def zkz : List TV → Nat → List (Nat × TV)
 | [], _ => []
 | p :: ps, i => (i, p) :: zkz ps (i + 1)
def res1K {R : Type} (P : Program) (σ : TS) (v : ResultVar) (k : TV → Option R) : Option R :=
 match v with
 | .tmp t => k (σ.get t)
 | .cell a t => loadK P σ.H t (σ.get a) k
def ressK {R : Type} (P : Program) (σ : TS) : List ResultVar → (List TV → Option R) → Option R
 | [], k => k []
 | v :: vs, k => res1K P σ v fun t => ressK P σ vs fun ts => k (t :: ts)
def resK {R : Type} (P : Program) (fn : Func) (σ : TS) (k : TV → Option R) : Option R :=
 ressK P σ fn.results.toList fun ts => match ts with
   | [t] => k t
   | ts => k (.tup ts)
def subC : Code → List Nat → Code
 | c, [] => c
 | .seq a _, 0 :: p => subC a p
 | .seq _ b, _ :: p => subC b p
 | .cond _ a _, 0 :: p => subC a p
 | .cond _ _ b, _ :: p => subC b p
 | .block _ x, _ :: p => subC x p
 | .scope x, _ :: p => subC x p
 | .loop x, _ :: p => subC x p
 | .rangeFunc _ _ x _, 0 :: p => subC x p
 | .rangeFunc _ _ _ y, _ :: p => subC y p
 | c, _ => c
def bodyC (fn : Func) : Code := fn.body.getD .skip
theorem z1mj {R : Type} {P : Program} {σ : TS} (hw : σ.wf) {v : ResultVar} {k : TV → Option R} {r : R} (h : res1K P σ v k = some r) : ∃ q, k q = some r ∧ q.wf ∧ ResV P σ.flat v q.pv := by
 cases v with
 | tmp t => exact ⟨_, h, zya hw t, zl2 σ t⟩
 | cell a t =>
   simp only [res1K] at h
   obtain ⟨q, h1, h2, h3⟩ := z1f2 hw (zya hw a) h
   exact ⟨q, h1, h2, _, zl2 σ a, h3 σ.flat.H fun _ _ => rfl⟩
theorem z1fg {R : Type} {P : Program} {σ : TS} (hw : σ.wf) : ∀ {vs : List ResultVar} {k : List TV → Option R} {r : R}, ressK P σ vs k = some r →
   ∃ qs, k qs = some r ∧ vs.length = qs.length ∧ (∀ q, q ∈ qs → q.wf) ∧ ∀ (i : Nat) v q, vs[i]? = some v → qs[i]? = some q → ResV P σ.flat v q.pv
 | [], k, r, h => ⟨[], by simpa only [ressK] using h, rfl, fun q hq => (by cases hq), fun i v q hv => by simp at hv⟩
 | v :: vs, k, r, h => by
   simp only [ressK] at h
   obtain ⟨q, h1, h2, h3⟩ := z1mj hw h
   obtain ⟨qs, g1, g2, g3, g4⟩ := z1fg hw h1
   refine ⟨q :: qs, g1, by simp [g2], fun x hx => ?_, fun i v' q' hv hq => ?_⟩
   · rcases List.mem_cons.1 hx with rfl | hx
     · exact h2
     · exact g3 x hx
   · cases i with
     | zero => simp at hv hq; subst hv; subst hq; exact h3
     | succ i => exact g4 i v' q' (by simpa using hv) (by simpa using hq)
theorem z1on {R : Type} {P : Program} {fn : Func} {σ : TS} (hw : σ.wf) {k : TV → Option R} {r : R} (h : resK P fn σ k = some r) : ∃ q, k q = some r ∧ q.wf ∧ ResP P fn σ.flat q.pv := by
 unfold resK at h
 obtain ⟨qs, h1, h2, h3, h4⟩ := z1fg hw h
 split at h1
 · rename_i q
   obtain ⟨v, hv⟩ := List.length_eq_one_iff.1 h2
   exact ⟨q, h1, h3 q (by simp), z1rh (r := v) (z8e hv) (h4 0 v q (by rw [hv]; rfl) rfl)⟩
 · rename_i hne
   refine ⟨_, h1, by simp only [TV.wf]; exact z3u.2 h3, ?_⟩
   simp only [TV.pv]
   refine z1pq (by rw [z4n]; simpa using h2) (fun e => ?_) (fun i v p hv hp => ?_)
   · rw [z4n, List.length_map] at e
     obtain ⟨q, rfl⟩ := List.length_eq_one_iff.1 e
     exact hne q rfl
   · rw [z4n, List.getElem?_map] at hp
     cases hq : qs[i]? with
     | none => rw [hq] at hp; cases hp
     | some q => rw [hq] at hp; simp at hp; subst hp; exact h4 i v q hv hq
theorem zuj : ∀ (ts : List TV) (i : Nat), (zkz ts i).map (fun x => (x.1, x.2.pv)) = zrp (ts.map TV.pv) i
 | [], _ => rfl
 | t :: ts, i => by simp only [zkz, List.map_cons, zrp, zuj ts (i + 1)]
theorem zpt : ∀ {ts : List TV} {i : Nat} {x : Nat × TV}, x ∈ zkz ts i → x.2 ∈ ts
 | [], _, _, h => by cases h
 | t :: ts, i, x, h => by
   simp only [zkz, List.mem_cons] at h
   rcases h with rfl | h
   · simp
   · simp [zpt h]
theorem noncell {w : World} {c : Cx} {H : List AObj} {D : Nat} {o : Obj} (o' : Obj) (g : Ab.Good w c H []) (hn : ∀ off, w.cell? ⟨D, off, none⟩ = none) (hm : some D ∉ c.m) (hgb : gb ≤ D) :
   Sees w c (w.putObj D o') c ∧ Ab.Good (w.putObj D o') c H [] := by
 have hT : c.T = [] := List.eq_nil_of_length_eq_zero g.tl
 have hne : ∀ b k : Nat, c.m[b]? = some (some k) → k ≠ D := fun b k h e => hm (e ▸ List.mem_of_getElem? h)
 have x : Sees w c (w.putObj D o') c := by
   refine ⟨fun _ _ h => h, hT, fun a n hf => ?_, fun a n i v hf hi hv => ?_, fun b k vs e fr h hh => ⟨vs, fr, (World.putObj_heap_other (hne b k h)).trans hh, rfl⟩⟩
   · rcases hf with hf | ⟨h1, h2, h3, h4, h5⟩
     · exact .inl hf
     · exact .inr ⟨h1, by simpa using h2, h3, h4, h5⟩
   · by_cases e : a.block = D
     · rw [e] at hv; rw [hn] at hv; cases hv
     · have : (w.putObj D o').cell? ⟨a.block, a.off + i, none⟩ = w.cell? ⟨a.block, a.off + i, none⟩ := z6h (World.putObj_heap_other e)
       rw [this]; exact hv
 refine ⟨x, ⟨g.len, g.inj, fun b o ho => ?_, g.tl, g.tal, g.tdead, fun i k j h => by rw [hT] at h; simp at h, g.tinj, fun k e hk => g.okn k e (by simpa using hk), g.okm, g.okt, g.oko,
   ⟨by simpa using g.gl.sz, g.gl.m, g.gl.T, Glob.stay (fun k hk => World.putObj_heap_other (by omega)) g.gl.var⟩⟩⟩
 have hob := g.obj b o ho
 cases o with
 | row cs e =>
   rcases hob with ⟨h1, h2⟩ | ⟨k, vs, fr, h1, h2, hf, h3, hl, h4⟩
   · exact .inl ⟨h1, h2⟩
   · exact .inr ⟨k, vs, fr, h1, (World.putObj_heap_other (hne b k h1)).trans h2, hf, h3, hl, VRs.sees x cs (fun _ _ _ e => e) h4⟩
 | raw o =>
   obtain ⟨k, h1, h2⟩ := hob
   exact ⟨k, h1, (World.putObj_heap_other (hne b k h1)).trans h2⟩
 | gone => exact hob
theorem zoo {w : World} {D : Nat} {ds : Option (List Deferred)} (h : w.heap[D]? = some (.deferred ds)) (off : Nat) : w.cell? ⟨D, off, none⟩ = none := by
 simp [World.cell?, h]
theorem z18i {p D : Nat} {w w' : World} {c c' : Cx} {o' : Obj} (x : ExtP p w c w' c') (hD : w.heap.size ≤ D) : ExtP p w c (w'.putObj D o') c' where
 os := x.os
 tape := x.tape
 output := x.output
 size := by simpa using x.size
 new := x.new
 blocks := fun k hk hm => (World.putObj_heap_other (by omega)).trans (x.blocks k hk hm)
 ok := x.ok
 pn := x.pn
 pin := x.pin
 room := fun k vs e fr h => by
   obtain ⟨vs', fr', h1, h2⟩ := x.room k vs e fr h
   have hlt : k < w.heap.size := (Array.getElem?_eq_some_iff.1 h).1
   exact ⟨vs', fr', (World.putObj_heap_other (by omega)).trans h1, h2⟩
theorem RelT.noncell {w : World} {c : Cx} {σ : TS} {a : Act} {D : Nat} {ds : Option (List Deferred)} (o' : Obj) (hr : RelT w c σ a) (h : w.heap[D]? = some (.deferred ds)) (hm : some D ∉ c.m) (hgb : gb ≤ D) : RelT (w.putObj D o') c σ a := by
 obtain ⟨x, g⟩ := Tm.noncell (o := .deferred ds) o' hr.2.1 (zoo h) hm hgb
 exact ⟨hr.1, g, hr.2.2.1, fun t p hl ht => by
   obtain ⟨v, h1, h2⟩ := hr.2.2.2 t p hl ht
   exact ⟨v, h1, VR.sees x _ h2⟩⟩
theorem z16a {P : Program} {func : Func} {w : World} {c c' : Cx} {R : Ending → World → Prop} {σ : TS} {a : Act} {p : Nat} (hgb : gb ≤ w.heap.size) : ∀ {l : List Nat} {w' : World}, l.Nodup → (∀ D, D ∈ l → w.heap.size ≤ D ∧ w'.heap[D]? = some (.deferred (some [])) ∧ some D ∉ c'.m) →
   RelT w' c' σ a → ExtP p w c w' c' → (∀ w2, RelT w2 c' σ a → ExtP p w c w2 c' → ∃ v, (results func a.tmps).run P w2 = .ok v w2 ∧ R (.returned v) w2) →
   LeavesInM (Wd none) 0 P func a.tmps R (l.map mark ++ []) .returning w'
 | [], w', _, _, hr, x, h => h w' hr x
 | D :: l, w', hn, hl, hr, x, h => by
   obtain ⟨g1, g2, g3⟩ := hl D (by simp)
   refine ⟨by simp, .inl ⟨D, _, rfl, run_takeDeferred g2, z16a hgb (List.nodup_cons.1 hn).2 (fun E hE => ?_) (hr.noncell _ g2 g3 (Nat.le_trans hgb g1)) (z18i x g1) h⟩⟩
   obtain ⟨k1, k2, k3⟩ := hl E (by simp [hE])
   exact ⟨k1, (World.putObj_heap_other (fun e : E = D => (List.nodup_cons.1 hn).1 (by rw [← e]; exact hE))).trans k2, k3⟩
def initS (fn : Func) (S : Sig) (x : LT S.codes) : TS := ⟨List.length (S.args x) + (fn.ntmps - List.length (S.args x)), zkz (S.args x) 0, S.heap x, S.pn⟩
noncomputable def fnK (P : Program) (V : Env) (fn : Func) (h : HT) (S : Sig) (x : LT S.codes) : Option S.X.T :=
 match fn.body with
 | some c => evalK P V c h (initS fn S x) fun e σ => match e with
   | .normal | .ret => resK P fn σ fun t => S.X.close .ret ⟨1, [(0, t)], σ.H, σ.p⟩ some
   | _ => none
 | none => none
def FHOK (P : Program) (fn : Func) (h : HT) : Prop := HOK P (bodyC fn) h
theorem z1q4 {σ : TS} (hw : σ.wf) : (resTV σ).wf := by
 unfold resTV
 cases h : lookT σ.slots 0 with
 | none => exact zre
 | some t =>
   obtain ⟨z, h1, h2⟩ := zp1 h
   rw [← h2]
   exact hw.slots z h1
theorem fn_ok {P : Program} {V : Env} (hV : EnvsOK P V) {S : Sig} {func : Func} {h : HT} {fn : LT S.codes → Option S.X.T} (hfun : P.funcs[S.f]? = some func) (hh : FHOK P func h) (hc : zfh P S.f = true) (hX : S.X.OK)
   (hfn : ∀ x, fnK P V func h S x = fn x) : FnOK P S fn := by
 have body : ∀ x y, fn x = some y → ∃ c, func.body = some c ∧ HOK P c h ∧ (evalK P V c h (initS func S x) fun e σ => match e with
   | .normal | .ret => resK P func σ fun t => S.X.close .ret ⟨1, [(0, t)], σ.H, σ.p⟩ some
   | _ => none) = some y := by
   intro x y hy
   rw [← hfn x] at hy
   unfold fnK at hy
   split at hy
   · rename_i c hb
     have : HOK P c h := by have := hh; unfold FHOK bodyC at this; rw [hb] at this; exact this
     exact ⟨c, hb, this, hy⟩
   · cases hy
 have init : ∀ x, (∀ t, t ∈ S.args x → t.wf) → (∀ o, o ∈ S.heap x → o.wf) → (initS func S x).wf := fun x ha ho => ⟨fun z hz => ha _ (zpt hz), ho⟩
 -- what a return hands over
 have post : ∀ y e σ', σ'.wf → (match e, σ' with | Exit.normal, σ' | Exit.ret, σ' => resK P func σ' fun t => S.X.close .ret ⟨1, [(0, t)], σ'.H, σ'.p⟩ some | _, _ => none) = some y →
     (e = .normal ∨ e = .ret) ∧ ∃ q, q.wf ∧ ResP P func σ'.flat q.pv ∧ Wk ⟨1, [(0, q)], σ'.H, σ'.p⟩ (S.X.at' y).2 := by
   intro y e σ' hwσ he
   have : (e = .normal ∨ e = .ret) ∧ (resK P func σ' fun t => S.X.close .ret ⟨1, [(0, t)], σ'.H, σ'.p⟩ some) = some y := by
     cases e <;> first | (cases he; done) | exact ⟨.inl rfl, he⟩ | exact ⟨.inr rfl, he⟩
   obtain ⟨h5, h6⟩ := this
   obtain ⟨q, q1, q2, q3⟩ := z1on hwσ h6
   obtain ⟨y', p1, _, p2⟩ := hX.close _ _ ⟨1, [(0, q)], σ'.H, σ'.p⟩ some y ⟨fun z hz => by rcases List.mem_singleton.1 hz with rfl; exact q2, hwσ.H⟩ q1
   cases p1
   exact ⟨h5, q, q2, q3, p2⟩
 refine ⟨hc, fun x y hy ha ho => ?_, fun x y hy ha ho => ?_, fun R y k => hX.open' R y k⟩
 · obtain ⟨c, hb, hok, hev⟩ := body x y hy
   obtain ⟨e, σ', hw', he⟩ := zxb hV c h hok (init x ha ho) hev
   obtain ⟨_, q, _, _, hk⟩ := post y e σ' hw' (by revert he; cases e <;> exact id)
   exact ⟨z1q4 hk.1, hk.1.H⟩
 · obtain ⟨c, hb, hok, hev⟩ := body x y hy
   have ht := zsw hV c h hok hev
   intro w cx vs g hpn hsz hv
   rw [List.length_map] at hsz
   refine (callsIn_wide (n := 0)).1 (callsIn_of_wp_marks (F := Wd none) hfun hb trivial (ht cx _ w _ ⟨hpn, g, ?_⟩ (init x ha ho) ?_ none trivial))
   · refine ⟨by simp [hsz, TS.flat, initS], fun t p hl hlt => ?_⟩
     simp only [TS.flat, initS, zuj] at hl
     obtain ⟨_, h2⟩ := zto _ 0 t p hl
     simp only [Nat.sub_zero] at h2
     obtain ⟨v, h3, h4⟩ := z0s hv h2
     have hlt' : t < vs.size := by rw [hsz]; have := (List.getElem?_eq_some_iff.1 h2).1; simpa using this
     exact ⟨v, by rw [Array.getElem?_append_left hlt']; exact h3, h4⟩
   · intro e c' a' w' σ' hQ hw' hr' hx hd
     obtain ⟨he, q, hq, hres, hk⟩ := post y e σ' hw' (by revert hQ; cases e <;> exact id)
     obtain ⟨l, hl1, hl2, hl3⟩ := hd
     have fin : LeavesInM (Wd none) 0 P func a'.tmps (fun e w'' => ∃ v p H' c', e = .returned v ∧ (p = (resTV (S.X.at' y).2).pv ∧ H' = (S.X.at' y).2.H.map TOb.flat) ∧ Ab.Good w'' c' H' [] ∧ VR w'' c' p v ∧ ExtP S.pn w cx w'' c') a'.defers .returning w' := by
       rw [hl1]
       refine z16a (p := σ'.p) (c := cx) g.gl.sz hl2 hl3 hr' ?_ fun w2 hr2 hx2 => ?_
       · have e2 : σ'.p = S.pn := by rw [← hr'.1, hx.pn, hpn]
         rw [e2]; exact hx
       obtain ⟨v, h1, h2⟩ := hres w2 c' a' hr2.2.1 hr2.2.2
       have hr1 : RelT w2 c' ⟨1, [(0, q)], σ'.H, σ'.p⟩ { a' with tmps := #[v] } := by
         refine ⟨hr2.1, hr2.2.1, rfl, fun t p hl hlt => ?_⟩
         have : t = 0 := by
           have : t < 1 := hlt
           omega
         subst this
         simp only [TS.flat, List.map_cons, List.map_nil, Ab.look, Nat.beq_refl, cond_true, Option.some.injEq] at hl
         subst hl
         exact ⟨v, rfl, h2⟩
       obtain ⟨c2, hr3, hx3⟩ := hk.2 w2 c' _ hr1
       have hxp : ExtP S.pn w cx w2 c2 := by
         have e2 : σ'.p = S.pn := by rw [← hr'.1, hx.pn, hpn]
         have := hx3 w cx hx2
         rw [show TS.p ⟨1, [(0, q)], σ'.H, σ'.p⟩ = S.pn from e2] at this
         exact this
       have hv2 : VR w2 c2 (resTV (S.X.at' y).2).pv v := by
         unfold resTV
         cases hl : lookT (S.X.at' y).2.slots 0 with
         | none => simp only [Option.getD_none, TV.pv, VR]
         | some t =>
           have hsz2 := hr3.2.2.1
           have hl2 : Ab.look (S.X.at' y).2.flat.slots 0 = some t.pv := by
             simp only [TS.flat, zfj, hl, Option.map_some]
           obtain ⟨v', g1, g2⟩ := hr3.2.2.2 0 _ hl2 (by rw [← hsz2]; exact Nat.one_pos)
           simp only [List.getElem?_toArray, List.getElem?_cons_zero, Option.some.injEq] at g1
           subst g1
           exact g2
       exact ⟨v, h1, v, _, _, c2, rfl, ⟨rfl, rfl⟩, hr3.2.1, hv2, hxp⟩
     rcases he with rfl | rfl
     · exact fin
     · exact fin
end Go.Tm
set_option linter.unusedSimpArgs false
set_option linter.unusedVariables false
namespace Go.Ab
theorem z1hz {w w' : World} {c c' : Cx} {H H' : List AObj} (g : Good w c H []) {pn : Nat} {ρ : List Nat} (hh : Hand c H.length pn ρ) (g' : Good w' c' H' []) (x : ExtP pn w (z2v w c pn ρ) w' c') : ExtP c.pn w c w' (z1j c c' H.length pn ρ) := by
 have ids : ∀ j k : Nat, c'.m[j]? = some (some k) → (∃ i b : Nat, ρ[i]? = some b ∧ c.m[b]? = some (some k)) ∨ w.heap.size ≤ k := fun j k h => by
   rcases x.new k (List.mem_iff_getElem?.2 ⟨j, h⟩) with h | h
   · exact .inl (zeo h)
   · exact .inr h
 have hm3 : ∀ k : Nat, some k ∈ (z1j c c' H.length pn ρ).m → some k ∈ c.m ∨ w.heap.size ≤ k := fun k hk => by
   obtain ⟨b, hb⟩ := List.mem_iff_getElem?.1 hk
   have key : ∀ j : Nat, c'.m[j]? = some (some k) → some k ∈ c.m ∨ w.heap.size ≤ k := fun j h => by
     rcases ids j k h with ⟨i, b', _, h2⟩ | h
     · exact .inl (List.mem_iff_getElem?.2 ⟨b', h2⟩)
     · exact .inr h
   rcases zo7 hb with ⟨_, j, _, _, h⟩ | ⟨_, _, h⟩ | ⟨_, h⟩
   · exact key j h
   · exact .inl (List.mem_iff_getElem?.2 ⟨b, h⟩)
   · exact key _ h
 refine ⟨x.os, x.tape, x.output, x.size, hm3, fun k hk hm => x.blocks k hk fun h => ?_, rfl, rfl, fun b k hb hk => ?_, x.room⟩
 · obtain ⟨j, b, _, h2⟩ := zeo h
   exact hm (List.mem_iff_getElem?.2 ⟨b, h2⟩)
 · have hbl : b < H.length := by rw [← g.len]; exact (List.getElem?_eq_some_iff.1 hk).1
   rw [zff hbl]
   cases hp : posOf ρ b with
   | some j =>
     have hj := zb2 hp
     by_cases hlt : j < pn
     · simp only [if_pos hlt, x.pin j k hlt (zev hj hk), Option.join_some]
     · have := hh.own j b (by omega) hj; omega
   | none => simp only [hk, Option.join_some]
end Go.Ab
namespace Go.Tm
open Go.Ab
def posN : List Nat → Nat → Nat → Option Nat
 | [], _, _ => none
 | b' :: r, b, j => bif Nat.beq b' b then some j else posN r b (j + 1)
theorem zz2 : ∀ (ρ : List Nat) (b j : Nat), posN ρ b j = (posN ρ b 0).map (· + j)
 | [], _, _ => rfl
 | b' :: r, b, j => by
   simp only [posN]
   cases Nat.beq b' b with
   | true => simp
   | false =>
     simp only [cond_false]
     rw [zz2 r b (j + 1), zz2 r b (0 + 1), Option.map_map]
     congr 1
     funext x
     simp only [Function.comp]; omega
theorem zow {ρ : List Nat} {b j : Nat} (h : posN ρ b 0 = some j) : ρ[j]? = some b := by
 induction ρ generalizing j with
 | nil => cases h
 | cons b' r ih =>
   simp only [posN] at h
   cases hb : Nat.beq b' b with
   | true =>
     rw [hb] at h
     cases h
     rw [Nat.eq_of_beq_eq_true hb]; rfl
   | false =>
     rw [hb] at h
     simp only [cond_false] at h
     rw [zz2] at h
     cases hp : posN r b 0 with
     | none => rw [hp] at h; cases h
     | some i =>
       rw [hp] at h
       simp at h
       subst h
       simpa using ih hp
theorem z16n {ρ : List Nat} {b : Nat} (h : posN ρ b 0 = none) : ∀ j : Nat, ρ[j]? ≠ some b := by
 induction ρ with
 | nil => intro j hj; simp at hj
 | cons b' r ih =>
   simp only [posN] at h
   cases hb : Nat.beq b' b with
   | true => rw [hb] at h; cases h
   | false =>
     rw [hb] at h
     simp only [cond_false] at h
     rw [zz2] at h
     intro j hj
     cases j with
     | zero =>
       simp at hj
       subst hj
       rw [Nat.beq_refl] at hb; cases hb
     | succ j =>
       refine ih ?_ j (by simpa using hj)
       cases hp : posN r b 0 with
       | none => rfl
       | some i => rw [hp] at h; cases h
def zzb : List Nat → Bool
 | [] => true
 | b :: r => !memN r b && zzb r
theorem z11f : ∀ {ρ : List Nat}, zzb ρ = true → ∀ i j b : Nat, ρ[i]? = some b → ρ[j]? = some b → i = j
 | [], _, i, j, b, h, _ => by simp at h
 | b' :: r, h, i, j, b, hi, hj => by
   simp only [zzb, Bool.and_eq_true, Bool.not_eq_true'] at h
   have hno : b' ∉ r := fun hm => by rw [z1b7.2 hm] at h; cases h.1
   cases i with
   | zero =>
     simp at hi; subst hi
     cases j with
     | zero => rfl
     | succ j => exact absurd (List.mem_of_getElem? (by simpa using hj)) hno
   | succ i =>
     cases j with
     | zero =>
       simp at hj; subst hj
       exact absurd (List.mem_of_getElem? (by simpa using hi)) hno
     | succ j => rw [z11f h.2 i j b (by simpa using hi) (by simpa using hj)]
def geL (p : Nat) : List Nat → Bool
 | [] => true
 | b :: L => Nat.ble p b && geL p L
theorem z1gi {p : Nat} : ∀ {L : List Nat}, geL p L = true → ∀ b, b ∈ L → p ≤ b
 | [], _, b, hb => by cases hb
 | a :: L, h, b, hb => by
   simp only [geL, Bool.and_eq_true] at h
   rcases List.mem_cons.1 hb with rfl | hb
   · exact Nat.le_of_ble_eq_true h.1
   · exact z1gi h.2 b hb
def zsm (n p pn : Nat) (ρ : List Nat) : Bool := z10s n ρ && zzb ρ && geL p (ρ.drop pn) && Nat.ble pn (List.length ρ)
theorem z16k {n p pn : Nat} {ρ : List Nat} {c : Cx} (h : zsm n p pn ρ = true) (hp : c.pn = p) : Hand c n pn ρ := by
 simp only [zsm, Bool.and_eq_true] at h
 obtain ⟨⟨⟨h1, h2⟩, h3⟩, h4⟩ := h
 refine ⟨fun j b hj => zsa h1 b (List.mem_of_getElem? hj), z11f h2, fun j b hj hb => ?_, Nat.le_of_ble_eq_true h4⟩
 rw [hp]
 refine z1gi h3 b (List.mem_of_getElem? (i := j - pn) ?_)
 rw [List.getElem?_drop, show pn + (j - pn) = j by omega]; exact hb
def handF (ρ : List Nat) (b : Nat) : Fate :=
 match posN ρ b 0 with
 | some j => .to j
 | none => .gone
theorem zrl (ρ : List Nat) (b : Nat) (o : Ob) : handF ρ b ≠ .fz o := by
 unfold handF
 cases posN ρ b 0 <;> simp
theorem z1kp {ρ : List Nat} {b j : Nat} (h : (handF ρ b).name = some j) : ρ[j]? = some b := by
 unfold handF at h
 cases hp : posN ρ b 0 with
 | none => rw [hp] at h; cases h
 | some i =>
   rw [hp] at h
   simp only [Fate.name, Option.some.injEq] at h
   subst h
   exact zow hp
theorem z1af {w : World} {c : Cx} {H : List AObj} (g : Ab.Good w c H []) (pn : Nat) (ρ : List Nat) : MvH (handF ρ) w c w (z2v w c pn ρ) :=
 ⟨z1rn g fun b j h => z1kp h, fun b o h => absurd h (zrl ρ b o), fun b o k h => absurd h (zrl ρ b o)⟩
theorem z1n0 {w : World} {c : Cx} {H : List TOb} (hw : ∀ o, o ∈ H → o.wf) (g : Ab.Good w c (H.map TOb.flat) []) {pn : Nat} {ρ : List Nat} (hh : Hand c (H.map TOb.flat).length pn ρ) {hs : List HPat} (hl : hs.length = ρ.length) :
   Ab.Good w (z2v w c pn ρ) ((newH (handF ρ) H hs (ρ.map some)).map TOb.flat) [] := by
 have M := z1af g pn ρ
 refine z1fu g hh (by rw [List.length_map, zy3 (by simpa using hl), List.length_map]) fun j b o hj ho => ?_
 simp only [List.getElem?_map] at ho
 cases hq : (newH (handF ρ) H hs (ρ.map some))[j]? with
 | none => rw [hq] at ho; cases ho
 | some q =>
   rw [hq] at ho
   simp only [Option.map_some, Option.some.injEq] at ho
   subst ho
   have hlt := hh.lt j b hj
   rw [List.length_map] at hlt
   rcases zod hq with ⟨h1, _⟩ | ⟨b', h1, h2⟩
   · rw [List.getElem?_map, hj] at h1; cases h1
   · rw [List.getElem?_map, hj] at h1
     cases h1
     rcases h2 with ⟨e, t, h2, rfl⟩ | ⟨e, u, l, h2, rfl⟩ | ⟨h2, rfl⟩
     · have hwt := hw _ (List.mem_of_getElem? h2)
       have m := zca M t hwt.1
       exact .inr ⟨t.cells, e, _, by rw [List.getElem?_map, h2]; rfl, rfl, m.len, m.leafs (z4z hwt.1 hwt.2), fun fv hf => m.cells fv hf⟩
     · have hwt := hw _ (List.mem_of_getElem? h2)
       exact .inr ⟨rowU u l, e, _, by rw [List.getElem?_map, h2]; rfl, rfl, rfl, z3z hwt, fun fv hf => VRs.transfer (fun a n h => M.base.foot a n h) _ (z7r hwt) hf⟩
     · rcases h2 with h2 | h2
       · have := List.getElem?_eq_none_iff.1 h2; omega
       · exact .inl ⟨by rw [List.getElem?_map, h2]; rfl, rfl⟩
def backF (n pn : Nat) (ρ : List Nat) (j : Nat) : Fate := .to (bif Nat.blt j pn then getN ρ j else n + (j - pn))
def oldF (pn : Nat) (ρ : List Nat) (b : Nat) : Fate :=
 match posN ρ b 0 with
 | some j => bif Nat.blt j pn then .to b else .gone
 | none => .to b
def zsh (n pn : Nat) (ρ : List Nat) (H' : List TOb) : List TOb → Nat → List TOb
 | [], _ => []
 | o :: r, b => (match posN ρ b 0 with
   | some j => bif Nat.blt j pn then (match H'[j]? with
     | some o' => o'.mv (backF n pn ρ)
     | none => .gone) else .gone
   | none => o.mv (oldF pn ρ)) :: zsh n pn ρ H' r (b + 1)
def backH (pn : Nat) (ρ : List Nat) (H H' : List TOb) : List TOb := zsh (List.length H) pn ρ H' H 0 ++ (H'.drop pn).map (TOb.mv (backF (List.length H) pn ρ))
def backS (σ : TS) (pn : Nat) (ρ : List Nat) (H' : List TOb) : TS := ⟨σ.n, zrs (oldF pn ρ) σ.slots, backH pn ρ σ.H H', σ.p⟩
theorem z14b (n pn : Nat) (ρ : List Nat) (H' : List TOb) : ∀ (H : List TOb) (b0 i : Nat), (zsh n pn ρ H' H b0)[i]? = (H[i]?).map fun o => match posN ρ (b0 + i) 0 with
   | some j => bif Nat.blt j pn then (match H'[j]? with
     | some o' => o'.mv (backF n pn ρ)
     | none => .gone) else .gone
   | none => o.mv (oldF pn ρ)
 | [], _, i => by simp [zsh]
 | o :: r, b0, 0 => by simp [zsh]
 | o :: r, b0, i + 1 => by
   simp only [zsh, List.getElem?_cons_succ]
   rw [z14b n pn ρ H' r (b0 + 1) i, show b0 + 1 + i = b0 + (i + 1) by omega]
theorem zqi (n pn : Nat) (ρ : List Nat) (H' : List TOb) : ∀ (H : List TOb) (b0 : Nat), (zsh n pn ρ H' H b0).length = H.length
 | [], _ => rfl
 | o :: r, b0 => by simp only [zsh, List.length_cons, zqi n pn ρ H' r]
theorem zxd (n pn : Nat) (ρ : List Nat) (b : Nat) (o : Ob) : backF n pn ρ b ≠ .fz o := by simp [backF]
theorem z18l (pn : Nat) (ρ : List Nat) (b : Nat) (o : Ob) : oldF pn ρ b ≠ .fz o := by
 unfold oldF
 cases posN ρ b 0 with
 | none => simp
 | some j => cases hb : Nat.blt j pn <;> simp [hb]
theorem zzs {g : Nat → Fate} (hg : ∀ b o, g b = .fz o → o.wf) {o : TOb} (h : o.wf) : (o.mv g).wf := by
 cases o with
 | gone => trivial
 | ob e o =>
   cases o with
   | row u l => exact h
   | var t => exact ⟨(mv_wf hg t h.1).1, (mv_wf hg t h.1).2 h.2⟩
theorem z1ci {g : Nat → Fate} {w w' : World} {c c' : Cx} (M : MvH g w c w' c') {o : TOb} (h : o.wf) :
   (o.flat = .gone ∧ (o.mv g).flat = .gone) ∨ ∃ cs e cs2, o.flat = .row cs e ∧ (o.mv g).flat = .row cs2 e ∧ cs2.length = cs.length ∧ Leafs cs2 ∧ ∀ fv, VRs w c cs fv → VRs w' c' cs2 fv := by
 cases o with
 | gone => exact .inl ⟨rfl, rfl⟩
 | ob e o =>
   cases o with
   | row u l => exact .inr ⟨rowU u l, e, rowU u l, rfl, rfl, rfl, z3z h, fun fv hf => by
     have := VRs.move M.base _ (g' := fv) (fun _ _ _ h => h) hf
     rw [z8b (z7r h)] at this
     exact this⟩
   | var t =>
     have m := zca M t h.1
     exact .inr ⟨t.cells, e, (t.mv g).cells, rfl, rfl, m.len, m.leafs (z4z h.1 h.2), fun fv hf => m.cells fv hf⟩
theorem z1ls (n pn : Nat) (ρ : List Nat) : (fun j => (backF n pn ρ j).name) = fun j => some (zy0 n pn ρ j) := by
 funext j
 simp only [backF, Fate.name, zy0, Option.some.injEq]
 by_cases h : j < pn
 · rw [Nat.blt_eq.mpr h, if_pos h]; simp only [cond_true, z1em, List.getD_eq_getElem?_getD]
 · have : Nat.blt j pn = false := by
     cases hb : Nat.blt j pn with
     | false => rfl
     | true => exact absurd (Nat.blt_eq.mp hb) h
   rw [this, if_neg h]; rfl
theorem z1rf {ρ : List Nat} (hinj : ∀ i j b : Nat, ρ[i]? = some b → ρ[j]? = some b → i = j) (b : Nat) : posN ρ b 0 = posOf ρ b := by
 cases h : posN ρ b 0 with
 | none =>
   cases h2 : posOf ρ b with
   | none => rfl
   | some j => exact absurd (zb2 h2) (z16n h j)
 | some i =>
   cases h2 : posOf ρ b with
   | none => exact absurd (zow h) (zvh h2 i)
   | some j => rw [hinj i j b (zow h) (zb2 h2)]
theorem z1n3 {pn : Nat} {ρ : List Nat} (hinj : ∀ i j b : Nat, ρ[i]? = some b → ρ[j]? = some b → i = j) : (fun b => (oldF pn ρ b).name) = z11a pn ρ := by
 funext b
 simp only [oldF, z11a, z1rf hinj]
 cases posOf ρ b with
 | none => rfl
 | some j =>
   simp only
   by_cases h : j < pn
   · rw [Nat.blt_eq.mpr h, if_pos h]; rfl
   · have : Nat.blt j pn = false := by
       cases hb : Nat.blt j pn with
       | false => rfl
       | true => exact absurd (Nat.blt_eq.mp hb) h
     rw [this, if_neg h]; rfl
theorem z1qb {σ : TS} (hw : σ.wf) (pn : Nat) (ρ : List Nat) {H' : List TOb} (hH : ∀ o, o ∈ H' → o.wf) : (backS σ pn ρ H').wf := by
 refine ⟨z1bs (fun b o h => absurd h (z18l pn ρ b o)) hw.slots, fun o ho => ?_⟩
 simp only [backS, backH] at ho
 rcases List.mem_append.1 ho with ho | ho
 · obtain ⟨i, hi⟩ := List.mem_iff_getElem?.1 ho
   rw [z14b] at hi
   cases hq : σ.H[i]? with
   | none => rw [hq] at hi; cases hi
   | some q =>
     rw [hq] at hi
     simp only [Option.map_some, Option.some.injEq] at hi
     subst hi
     split
     · rename_i j _
       cases Nat.blt j pn with
       | false => trivial
       | true =>
         simp only [cond_true]
         split
         · rename_i o' ho'
           exact zzs (fun b o h => absurd h (zxd _ _ _ b o)) (hH _ (List.mem_of_getElem? ho'))
         · trivial
     · exact zzs (fun b o h => absurd h (z18l _ _ b o)) (hw.H _ (List.mem_of_getElem? hq))
 · simp only [List.mem_map] at ho
   obtain ⟨o', ho', rfl⟩ := ho
   exact zzs (fun b o h => absurd h (zxd _ _ _ b o)) (hH _ (List.mem_of_mem_drop ho'))
theorem z1p2 {w w' : World} {c c' : Cx} {σ : TS} {a : Act} (hr : RelT w c σ a) (hw : σ.wf) {pn : Nat} {ρ : List Nat} (hk : zsm (List.length σ.H) σ.p pn ρ = true) {H' : List TOb} (hH : ∀ o, o ∈ H' → o.wf) (g' : Ab.Good w' c' (H'.map TOb.flat) [])
   (x : ExtP pn w (z2v w c pn ρ) w' c') (hpn : pn ≤ H'.length) : ∃ c3, RelT w' c3 (backS σ pn ρ H') a ∧ ExtP σ.p w c w' c3 ∧ ∀ (t : TV) v, t.wf → VR w' c' t.pv v → VR w' c3 (t.mv (backF (List.length σ.H) pn ρ)).pv v := by
 have g := hr.good
 have hlen : (σ.H.map TOb.flat).length = σ.H.length := by simp
 have hh : Hand c (σ.H.map TOb.flat).length pn ρ := by rw [hlen]; exact z16k hk hr.1
 have xx := z1hz g hh g' x
 have hpn' : pn ≤ (H'.map TOb.flat).length := by simpa using hpn
 have M1 : MvH (oldF pn ρ) w c w' (z1j c c' (σ.H.map TOb.flat).length pn ρ) :=
   ⟨by rw [z1n3 hh.inj]; exact z1j6 g hh g' x hpn' xx, fun b o h => absurd h (z18l _ _ b o), fun b o k h => absurd h (z18l _ _ b o)⟩
 have M2 : MvH (backF σ.H.length pn ρ) w' c' w' (z1j c c' (σ.H.map TOb.flat).length pn ρ) :=
   ⟨by rw [z1ls, ← hlen]; exact z1a1 g hh g' x hpn', fun b o h => absurd h (zxd _ _ _ b o), fun b o k h => absurd h (zxd _ _ _ b o)⟩
 have getOld : ∀ b : Nat, b < σ.H.length → (backH pn ρ σ.H H')[b]? = (σ.H[b]?).map fun o => match posN ρ b 0 with
     | some j => bif Nat.blt j pn then (match H'[j]? with
       | some o' => o'.mv (backF σ.H.length pn ρ)
       | none => .gone) else .gone
     | none => o.mv (oldF pn ρ) := fun b hb => by
   simp only [backH]
   rw [List.getElem?_append_left (by rw [zqi]; exact hb), z14b, Nat.zero_add]
 have getNew : ∀ j : Nat, pn ≤ j → (backH pn ρ σ.H H')[σ.H.length + (j - pn)]? = (H'[j]?).map (TOb.mv (backF σ.H.length pn ρ)) := fun j hj => by
   simp only [backH]
   rw [List.getElem?_append_right (by rw [zqi]; omega), zqi, List.getElem?_map, List.getElem?_drop, show pn + (σ.H.length + (j - pn) - σ.H.length) = j by omega]
 have hG := (z1m3 g hh g' x hpn' (H3 := (backH pn ρ σ.H H').map TOb.flat) (by simp [backH, zqi]) (fun j b hj hb => ?_) (fun j b hj hb => ?_) (fun b hb hno => ?_) (fun j hj hl => ?_)).1
 · exact ⟨z1j c c' (σ.H.map TOb.flat).length pn ρ, ⟨hr.1, hG, z1gr hw M1 hr.2.2 _ _⟩, by rw [← hr.1]; exact xx, fun t v ht hv => (zca M2 t ht).pv v hv⟩
 · have hbl : b < σ.H.length := by rw [← hlen]; exact hh.lt j b hb
   have hjl : j < H'.length := by omega
   have hp : posN ρ b 0 = some j := by
     cases hp : posN ρ b 0 with
     | none => exact absurd hb (z16n hp j)
     | some i => rw [hh.inj i j b (zow hp) hb]
   have := getOld b hbl
   rw [List.getElem?_eq_getElem hbl, Option.map_some, hp] at this
   simp only [Nat.blt_eq.mpr hj, cond_true, List.getElem?_eq_getElem hjl] at this
   refine ⟨_, _, by rw [List.getElem?_map, List.getElem?_eq_getElem hjl]; rfl, by rw [List.getElem?_map, this]; rfl, ?_⟩
   exact z1ci M2 (hH _ (List.getElem_mem hjl))
 · have hbl : b < σ.H.length := by rw [← hlen]; exact hh.lt j b hb
   have hp : posN ρ b 0 = some j := by
     cases hp : posN ρ b 0 with
     | none => exact absurd hb (z16n hp j)
     | some i => rw [hh.inj i j b (zow hp) hb]
   have hnb : Nat.blt j pn = false := by
     cases hb : Nat.blt j pn with
     | false => rfl
     | true => exact absurd (Nat.blt_eq.mp hb) (by omega)
   have := getOld b hbl
   rw [List.getElem?_eq_getElem hbl, Option.map_some, hp] at this
   simp only [hnb, cond_false] at this
   rw [List.getElem?_map, this]; rfl
 · rw [hlen] at hb
   have hp : posN ρ b 0 = none := by
     cases hp : posN ρ b 0 with
     | none => rfl
     | some i => exact absurd (zow hp) (hno i)
   have := getOld b hb
   rw [List.getElem?_eq_getElem hb, Option.map_some, hp] at this
   simp only at this
   rcases z1ci M1 (hw.H _ (List.getElem_mem hb)) with ⟨h1, h2⟩ | ⟨cs, e, cs2, h1, h2, h3, h4, h5⟩
   · exact .inl ⟨by rw [List.getElem?_map, List.getElem?_eq_getElem hb]; exact congrArg some h1, by rw [List.getElem?_map, this]; exact congrArg some h2⟩
   · exact .inr ⟨cs, e, cs2, by rw [List.getElem?_map, List.getElem?_eq_getElem hb]; exact congrArg some h1, by rw [List.getElem?_map, this]; exact congrArg some h2, h3, h4, h5⟩
 · have hl' : j < H'.length := by simpa using hl
   have := getNew j hj
   rw [List.getElem?_eq_getElem hl', Option.map_some] at this
   refine ⟨_, _, by rw [List.getElem?_map, List.getElem?_eq_getElem hl']; rfl, by rw [hlen, List.getElem?_map, this]; rfl, ?_⟩
   exact z1ci M2 (hH _ (List.getElem_mem hl'))
end Go.Tm