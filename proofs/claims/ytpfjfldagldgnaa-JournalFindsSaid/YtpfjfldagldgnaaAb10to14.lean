import Derived.Test.YtpfjfldagldgnaaAb5to9
import Derived.Below
import GoSem.ClaimChange
import Derived.Carry
import Derived.WideShapes
import Derived.OpenShut
namespace Go.Ab
theorem zq2 {P : Program} : ∀ (us : List Value) {w : World} {k off i : Nat} {vs : Array Value} {e : TypeId} {fr : Nat × Nat},
   w.heap[k]? = some (.cells vs e fr) → nofz fr vs.size → off + i + us.length ≤ vs.size → (∀ u, u ∈ us → u.oneCell' = true) →
   ∃ w' vs', (storeCells ⟨k, off, none⟩ us i).run P w = .ok () w' ∧ w'.heap[k]? = some (.cells vs' e fr) ∧ vs'.size = vs.size ∧
     (∀ j : Nat, vs'[j]? = if off + i ≤ j ∧ j < off + i + us.length then us[j - (off + i)]? else vs[j]?) ∧ (∀ k' : Nat, k' ≠ k → w'.heap[k']? = w.heap[k']?) ∧
     w'.heap.size = w.heap.size ∧ w'.os = w.os ∧ w'.tape = w.tape ∧ w'.output = w.output
 | [], w, k, off, i, vs, e, fr, h, _, _, _ => ⟨w, vs, rfl, h, rfl, fun j => by rw [if_neg (by simp only [List.length_nil]; omega)], fun _ _ => rfl, rfl, rfl, rfl, rfl⟩
 | u :: us, w, k, off, i, vs, e, fr, h, hf, hlen, ho => by
   simp only [List.length_cons] at hlen
   have hlt : off + i < vs.size := by omega
   have h2 := z16z w k (off + i) u h
   obtain ⟨w', vs', h3, h4, h5, h6, h7, h8, h9⟩ := zq2 us (w := w.setCell ⟨k, off + i, none⟩ u) (i := i + 1) (off := off) h2 (by simpa using hf) (by simp; omega) (fun u hu => ho u (by simp [hu]))
   refine ⟨w', vs', ?_, h4, by simpa using h5, fun j => ?_, fun k' hk => (h7 k' hk).trans (zk7 w k _ k' u hk), by rw [h8, z1hd], h9⟩
   · have hone := ho u (by simp)
     have hcell : w.cell? ⟨k, off + i, none⟩ = some vs[off + i] := by rw [zhf h]; simp [hlt]
     have hfr : w.frozen? ⟨k, off + i, none⟩ = false := by
       simp only [World.frozen?, h]
       simpa using hf.no (off + i) hlt
     unfold storeCells
     rw [z7d, Sem.run_bind]
     have hst : (store ⟨k, off + i, none⟩ u : Sem Unit).run P w = .ok () (w.setCell ⟨k, off + i, none⟩ u) := by
       unfold store
       cases u <;> simp only [Value.oneCell'] at hone <;> first | (cases hone; done) | (simp only [Sem.run, hcell, hfr]; rfl)
     rw [hst]
     exact h3
   · rw [h6 j]
     simp only [List.length_cons]
     by_cases h1 : off + (i + 1) ≤ j ∧ j < off + (i + 1) + us.length
     · rw [if_pos h1, if_pos (by omega)]
       have : j - (off + i) = (j - (off + (i + 1))) + 1 := by omega
       rw [this]; rfl
     · rw [if_neg h1]
       by_cases h2 : j = off + i
       · subst h2
         rw [if_pos (by omega), Array.getElem?_setIfInBounds_self_of_lt hlt]; simp
       · rw [if_neg (by omega), Array.getElem?_setIfInBounds_ne (by omega)]
def AppOK (tl : Tail) (ts : List Bool) (sz : Nat) : Prop := tl = .full ∨ ∃ i, tl = .tok i sz ∧ ts[i]? = some true
def SrcOK (P : Program) (σ : AS) (y : Operand) (m sz : Nat) (news : List PV) : Prop :=
 news.length = m * sz ∧ Leafs news ∧ ∀ w c (a : Act), RelC w c σ a → (Builtin.lenOf (a.eval y)).run P w = .ok m w ∧
   ∃ us : Array Value, (∀ n, (Builtin.firstCells sz m (a.eval y)).run P { w with drawn := n } = .ok us { w with drawn := n }) ∧ us.size = m * sz ∧ VRs w c news (fun i => us[i]?)
theorem z1rq {P : Program} {w : World} {c : Cx} {a : Addr} (cs : List PV) (hf : Foot w c a cs.length) (h : VRs w c cs (fun i => w.cell? ⟨a.block, a.off + i, none⟩)) :
   ∃ us : Array Value, (∀ n, (loadCells a cs.length).run P { w with drawn := n } = .ok us { w with drawn := n }) ∧ us.size = cs.length ∧ VRs w c cs (fun i => us[i]?) := by
 have h' := zwy hf h
 refine ⟨((List.range cs.length).map (fun i => (w.cell? (a.add i)).getD undef)).toArray, fun n => ?_, by simp, z2d fun i p hp => ?_⟩
 · refine run_loadCells { w with drawn := n } a cs.length _ (fun i hi => ?_)
   obtain ⟨v, h1, _⟩ := z0s h' (List.getElem?_eq_getElem hi)
   have : ({ w with drawn := n } : World).cell? (a.add i) = w.cell? (a.add i) := rfl
   rw [this, h1]; rfl
 · have hi := (List.getElem?_eq_some_iff.1 hp).1
   obtain ⟨v, h1, h2⟩ := z0s h' hp
   exact ⟨v, by simp [hi, h1], h2⟩
theorem z1en (need : Nat) (h : 256 ≤ need) : ∀ (r c : Nat), c ≤ 2 * need → Builtin.growBy need r c ≤ 2 * need
 | 0, c, hc => hc
 | r + 1, c, hc => by
   unfold Builtin.growBy
   split
   · exact hc
   · exact z1en need h r _ (by omega)
theorem z1dd (need cap : Nat) (h : cap < need) : Builtin.nextslicecap need cap ≤ 2 * need := by
 unfold Builtin.nextslicecap
 split
 · omega
 · split
   · omega
   · exact z1en need (by omega) 4 cap (by omega)
structure ElemT (P : Program) (e : TypeId) (sz nb : Nat) : Prop where
 size : tySz P e = some sz
 bytes : (P.info? e).map (·.bytes) = some nb
 pos : nb ≠ 0
 zero : ∃ z, z9t P e = some z ∧ z.length = sz
theorem ElemT.info {P : Program} {e : TypeId} {sz bytes : Nat} (h : ElemT P e sz bytes) (w : World) : ∃ i, (typeInfo e).run P w = .ok i w ∧ i.bytes = bytes := by
 have := h.bytes
 cases hi : P.info? e with
 | none => rw [hi] at this; cases this
 | some i => rw [hi] at this; simp at this; exact ⟨i, by simp [typeInfo, hi], this⟩
def srcTy (P : Program) (t : TypeId) : Bool :=
 match P.underlying t with
 | some (.slice _) | some .string => true
 | _ => false
theorem z1ba {P : Program} {t : TypeId} (h : srcTy P t = true) : (∃ e, P.underlying t = some (.slice e)) ∨ P.underlying t = some .string := by
 unfold srcTy at h
 cases hu : P.underlying t with
 | none => rw [hu] at h; cases h
 | some d =>
   rw [hu] at h
   cases d <;> simp at h
   · exact .inr rfl
   · exact .inl ⟨_, rfl⟩
theorem z1by {P : Program} {w w' : World} {t t2 e : TypeId} {a : Addr} {len cap m sz : Nat} {x : Value} {us : Array Value}
   (ht : P.underlying t = some (.slice e)) (hs : tySz P e = some sz) (ht2 : srcTy P t2 = true) (hl : (Builtin.lenOf x).run P w = .ok m w)
   (hc : (Builtin.firstCells sz m x).run P w = .ok us w) (hroom : len + m ≤ cap) (hst : (storeCells (a.add (len * sz)) us.toList).run P w = .ok () w') (ty : TypeId) :
   (Builtin.append_ #[t, t2] ty #[.slice (some a) len cap, x]).run P w = .ok (.slice (some a) (len + m) cap) w' := by
 unfold Builtin.append_
 simp only [List.getElem?_toArray, List.getElem?_cons_zero, List.getElem?_cons_succ]
 rcases z1ba ht2 with ⟨e2, hd⟩ | hd
 all_goals
   simp only [Sem.run_bind, run_underlying ht, run_sizeOf hs, Result.andThen_ok, run_underlying hd, Sem.run_pure, Bool.false_eq_true, if_false, hl, if_pos hroom, Bool.not_false,
     if_true, hc, hst]
theorem zj3 {P : Program} {w : World} {t t2 e : TypeId} {b : Option Addr} {len cap sz : Nat} {x : Value} {us : Array Value}
   (ht : P.underlying t = some (.slice e)) (hs : tySz P e = some sz) (ht2 : srcTy P t2 = true) (hl : (Builtin.lenOf x).run P w = .ok 0 w)
   (hc : (Builtin.firstCells sz 0 x).run P w = .ok us w) (hu : us.size = 0) (hroom : len ≤ cap) (ty : TypeId) :
   (Builtin.append_ #[t, t2] ty #[.slice b len cap, x]).run P w = .ok (.slice b len cap) w := by
 have hu' : us = #[] := Array.eq_empty_of_size_eq_zero hu
 subst hu'
 unfold Builtin.append_
 simp only [List.getElem?_toArray, List.getElem?_cons_zero, List.getElem?_cons_succ]
 rcases z1ba ht2 with ⟨e2, hd⟩ | hd
 all_goals
   simp only [Sem.run_bind, run_underlying ht, run_sizeOf hs, Result.andThen_ok, run_underlying hd, Sem.run_pure, Bool.false_eq_true, if_false, hl, Nat.add_zero, if_pos hroom,
     Bool.not_false, if_true, hc]
   cases b with
   | none => rfl
   | some a => rfl
theorem zpy {P : Program} {w : World} {t t2 e : TypeId} {b : Option Addr} {len cap m sz bytes : Nat} {x : Value} {us os : Array Value}
   (ht : P.underlying t = some (.slice e)) (he : ElemT P e sz bytes) (ht2 : srcTy P t2 = true) (hl : (Builtin.lenOf x).run P w = .ok m w)
   (hold : ∀ n, (Builtin.firstCells sz len (.slice b len cap)).run P { w with drawn := n } = .ok os { w with drawn := n })
   (hc : ∀ n, (Builtin.firstCells sz m x).run P { w with drawn := n } = .ok us { w with drawn := n }) (hroom : ¬ len + m ≤ cap) (hb : (len + m) * bytes ≤ 2 ^ 47) (ty : TypeId) :
   ∃ rest : Array Value, ∃ ncap, len + m ≤ ncap ∧ rest.size = (ncap - (len + m)) * sz ∧
     (Builtin.append_ #[t, t2] ty #[.slice b len cap, x]).run P w = .ok (.slice (some ⟨w.heap.size, 0, none⟩) (len + m) ncap)
       (grow { w with drawn := w.drawn + 1 } (.cells (os ++ us ++ rest) e (0, 0))) := by
 obtain ⟨z, hz0, hzl⟩ := he.zero
 obtain ⟨zv, hz1, hz2, _⟩ := zb5 (w := { w with drawn := w.drawn + 1 }) hz0
 obtain ⟨i0, hi0, hib⟩ := he.info w
 obtain ⟨i1, hi1, hib1⟩ := he.info { w with drawn := w.drawn + 1 }
 refine ⟨Builtin.zeroCells zv.cells ((Question.appendCap (len + m) cap e).cut (w.tape w.drawn (.appendCap (len + m) cap e)) - (len + m)),
   (Question.appendCap (len + m) cap e).cut (w.tape w.drawn (.appendCap (len + m) cap e)), Nat.le_add_right _ _, ?_, ?_⟩
 · simp [Builtin.zeroCells, hz2, hzl]
 · unfold Builtin.append_
   simp only [List.getElem?_toArray, List.getElem?_cons_zero, List.getElem?_cons_succ]
   have hb1 : ¬ (((len + m : Nat) : Int) > IntKind.i64.max ∧ ((false : Bool) = true ∨ i0.bytes = 0)) := by
     rintro ⟨_, h | h⟩
     · cases h
     · exact he.pos (hib ▸ h)
   have hb2 : ¬ Builtin.nextslicecap (len + m) cap * i0.bytes > 2 ^ 48 := by
     have := z1dd (len + m) cap (by omega)
     have h3 : Builtin.nextslicecap (len + m) cap * i0.bytes ≤ 2 * (len + m) * i0.bytes := Nat.mul_le_mul_right _ this
     rw [hib] at h3 ⊢
     rw [Nat.mul_assoc] at h3
     omega
   have hb1' : ¬ (((len + m : Nat) : Int) > IntKind.i64.max ∧ i0.bytes = 0) := fun h => hb1 ⟨h.1, .inr h.2⟩
   rcases z1ba ht2 with ⟨e2, hd⟩ | hd
   all_goals
     simp only [Sem.run_bind, run_underlying ht, run_sizeOf he.size, Result.andThen_ok, run_underlying hd, Sem.run_pure, Bool.false_eq_true, if_false, hl, if_neg hroom, hi0, false_or]
     rw [if_neg hb1']
     simp only [Sem.run_bind, Sem.run_pure, Result.andThen_ok, hi0, if_neg hb2, run_choose, Question.forced, Bool.false_eq_true, if_false, run_askRoom, hi1, hold, Bool.not_false, if_true, hc, hz1,
       newRow, run_newObj]
     rfl
end Go.Ab
namespace Go.Ab
end Go.Ab
namespace Go.Ab
open Go.RowKit (Below)
mutual
def z4e {H : Type} : DataW H → List PV
 | .lit (.bool b) => [.val (.bool b)]
 | .lit (.int k n) => [.val (.int k n)]
 | .lit (.string l) => [.val (.string ⟨l.toArray⟩)]
 | .lit _ => [.dead]
 | .nil => [.tr 0 [] .no]
 | .slice es _ => [.tr es.length (z3j es) .no]
 | .agg ps => z3j ps
 | .ptr _ => [.dead]
 | .iface _ _ => [.dead]
 | .map _ => [.dead]
 | .held _ => [.dead]
def z3j {H : Type} : List (DataW H) → List PV
 | [] => []
 | d :: ds => z4e d ++ z3j ds
end
def zer (P : Program) : List Field → Nat → Nat → Bool
 | [], off, n => off == n
 | f :: fs, off, n => f.offset == off && zer P fs (off + P.cellsOf f.type) n
def z9b (P : Program) : Nat → TypeId → Bool
 | 0, _ => false
 | n + 1, t =>
   match P.underlying t with
   | some .bool | some (.int _) | some .string => true
   | some (.slice e) => z9b P n e
   | some (.array k e) => z9b P n e && P.cellsOf t == k * P.cellsOf e
   | some (.struct fs) => fs.toList.all (fun f => z9b P n f.type) && zer P fs.toList 0 (P.cellsOf t)
   | _ => false
theorem zoc {α β : Type} {f : α → Option β} : ∀ {l : List α} {xs : List β}, l.mapM f = some xs → xs.length = l.length ∧ ∀ (i : Nat) a, l[i]? = some a → ∃ x, xs[i]? = some x ∧ f a = some x
 | [], xs, h => by
   simp at h; subst h
   exact ⟨rfl, fun i a h => by simp at h⟩
 | a :: l, xs, h => by
   rw [List.mapM_cons] at h
   cases hf : f a with
   | none => rw [hf] at h; cases h
   | some x =>
     rw [hf] at h
     cases hl : l.mapM f with
     | none => rw [hl] at h; cases h
     | some ys =>
       rw [hl] at h
       simp at h
       subst h
       obtain ⟨h1, h2⟩ := zoc hl
       refine ⟨by simp [h1], fun i b hb => ?_⟩
       cases i with
       | zero => simp at hb; subst hb; exact ⟨x, rfl, hf⟩
       | succ i => exact h2 i b (by simpa using hb)
theorem zvr {w : World} {base : Nat} {a : Addr} {n : Nat} {cs : List Value} (h : w.cells? base a n = some cs) : cs.length = n ∧ ∀ i, i < n → w.cell? (a.add i) = cs[i]? := by
 unfold World.cells? at h
 split at h
 · obtain ⟨h1, h2⟩ := zoc h
   refine ⟨by simpa using h1, fun i hi => ?_⟩
   obtain ⟨x, h3, h4⟩ := h2 i i (by simp [hi])
   rw [h4, h3]
 · cases h
theorem zw5 {w : World} {c : Cx} {xs ys : List PV} {f : Nat → Option Value} (h1 : VRs w c xs f) (h2 : VRs w c ys (fun i => f (xs.length + i))) : VRs w c (xs ++ ys) f :=
 z2d fun i p hp => by
   by_cases hi : i < xs.length
   · rw [List.getElem?_append_left hi] at hp; exact z0s h1 hp
   · rw [List.getElem?_append_right (Nat.le_of_not_lt hi)] at hp
     obtain ⟨v, h3, h4⟩ := z0s h2 hp
     exact ⟨v, by have : xs.length + (i - xs.length) = i := by omega
                  rw [this] at h3; exact h3, h4⟩
theorem zem {w : World} {c : Cx} {xs : List PV} {f g : Nat → Option Value} (h : VRs w c xs f) (hfg : ∀ i, i < xs.length → f i = g i) : VRs w c xs g :=
 z2d fun i p hp => by
   obtain ⟨v, h1, h2⟩ := z0s h hp
   exact ⟨v, by rw [← hfg i (List.getElem?_eq_some_iff.1 hp).1]; exact h1, h2⟩
def Rd {H : Type} (w : World) (c : Cx) (d : DataW H) (cs : List Value) : Prop :=
 (z4e d).length = cs.length ∧ Leafs (z4e d) ∧ VRs w c (z4e d) (fun i => cs[i]?)
theorem z1e2 {H : Type} {w : World} {c : Cx} {sz : Nat} : ∀ {ds : List (DataW H)} {css : List (List Value)}, ds.length = css.length → (∀ (i : Nat) d cs, ds[i]? = some d → css[i]? = some cs → Rd w c d cs ∧ cs.length = sz) →
   (z3j ds).length = ds.length * sz ∧ Leafs (z3j ds) ∧ VRs w c (z3j ds) (fun i => css.flatten[i]?)
 | [], [], _, _ => ⟨by simp [z3j], fun q hq => by simp [z3j] at hq, by simp only [z3j, VRs]⟩
 | d :: ds, cs :: css, hl, h => by
   obtain ⟨⟨h1, h2, h3⟩, h4⟩ := h 0 d cs rfl rfl
   obtain ⟨h5, h6, h7⟩ := z1e2 (ds := ds) (css := css) (by simpa using hl) (fun i d cs hd hc => h (i + 1) d cs (by simpa using hd) (by simpa using hc))
   refine ⟨by simp [z3j, h1, h4, h5, Nat.add_mul, Nat.add_comm], fun q hq => ?_, ?_⟩
   · simp only [z3j, List.mem_append] at hq
     exact hq.elim (h2 q) (h6 q)
   · simp only [z3j, List.flatten_cons]
     refine zw5 (zem h3 fun i hi => ?_) (zem h7 fun i hi => ?_)
     · rw [List.getElem?_append_left (by omega)]
     · rw [List.getElem?_append_right (by omega)]
       congr 1; omega
 | [], _ :: _, hl, _ => by simp at hl
 | _ :: _, [], hl, _ => by simp at hl
theorem z10o {sz : Nat} : ∀ {css : List (List Value)} {i r : Nat} {cs : List Value}, (∀ c, c ∈ css → c.length = sz) → css[i]? = some cs → r < sz → css.flatten[i * sz + r]? = cs[r]?
 | [], _, _, _, _, h, _ => by simp at h
 | c :: css, 0, r, cs, hsz, h, hr => by
   simp at h; subst h
   rw [List.flatten_cons, List.getElem?_append_left (by rw [hsz c (by simp)]; omega)]; simp
 | c :: css, i + 1, r, cs, hsz, h, hr => by
   have hc := hsz c (by simp)
   rw [List.flatten_cons, List.getElem?_append_right (by rw [hc, Nat.add_mul]; omega), hc]
   have : (i + 1) * sz + r - sz = i * sz + r := by rw [Nat.add_mul]; omega
   rw [this]
   exact z10o (fun c hc => hsz c (by simp [hc])) (by simpa using h) hr
theorem z1r4 {H : Type} {enc : TypeId × Value → H} {P : Program} {w : World} {c : Cx} (hm : c.m = []) (hT : c.T = []) (hok : ∀ b e, c.ok b e) {spare : Nat → Bool} {held : Bool} :
   ∀ (fuel n : Nat) (t : TypeId) (cs : List Value) (d : DataW H) (ps : List MemPlace), z9b P n t = true → DataW.trod enc P w 0 spare held fuel t cs = some (d, ps) → Rd w c d cs ∧
     (P.underlying t = some .bool ∨ (∃ k, P.underlying t = some (.int k)) ∨ P.underlying t = some .string ∨ (∃ e, P.underlying t = some (.slice e)) ∨ cs.length = P.cellsOf t) := by
 intro fuel
 induction fuel with
 | zero => intro n t cs d ps _ h; simp [DataW.trod] at h
 | succ fuel ih =>
   intro n t cs d ps hp h
   cases n with
   | zero => simp [z9b] at hp
   | succ n =>
     simp only [z9b] at hp
     cases hu : P.underlying t with
     | none => rw [hu] at hp; cases hp
     | some u =>
       rw [hu] at hp
       cases u <;> simp only [Bool.false_eq_true] at hp
       · -- bool
         refine ⟨?_, .inl rfl⟩
         have hcase : ∃ b, cs = [.bool b] ∧ d = .lit (.bool b) := by
           cases cs with
           | nil => simp [DataW.trod, hu] at h
           | cons v r => cases r <;> cases v <;> simp [DataW.trod, hu] at h ⊢; exact h.1.symm
         obtain ⟨b, rfl, rfl⟩ := hcase
         refine ⟨rfl, fun q hq => by simp [z4e] at hq; subst hq; rfl, ?_⟩
         simp only [z4e, VRs]
         exact ⟨⟨_, rfl, z4f rfl⟩, trivial⟩
       · rename_i k
         refine ⟨?_, .inr (.inl ⟨k, rfl⟩)⟩
         have hcase : ∃ x, cs = [.int k x] ∧ d = .lit (.int k x) := by
           cases cs with
           | nil => simp [DataW.trod, hu] at h
           | cons v r => cases r <;> cases v <;> simp [DataW.trod, hu] at h ⊢; obtain ⟨⟨h1, _⟩, h2, _⟩ := h; exact ⟨_, ⟨h1, rfl⟩, h2.symm⟩
         obtain ⟨x, rfl, rfl⟩ := hcase
         refine ⟨rfl, fun q hq => by simp [z4e] at hq; subst hq; rfl, ?_⟩
         simp only [z4e, VRs]
         exact ⟨⟨_, rfl, z4f rfl⟩, trivial⟩
       · refine ⟨?_, .inr (.inr (.inl rfl))⟩
         have hcase : ∃ x, cs = [.string x] ∧ d = .lit (.string x.data.toList) := by
           cases cs with
           | nil => simp [DataW.trod, hu] at h
           | cons v r => cases r <;> cases v <;> simp [DataW.trod, hu] at h ⊢; exact h.2.1.symm
         obtain ⟨x, rfl, rfl⟩ := hcase
         refine ⟨rfl, fun q hq => by simp [z4e] at hq; subst hq; rfl, ?_⟩
         simp only [z4e, VRs]
         exact ⟨⟨_, rfl, z4f rfl⟩, trivial⟩
       · -- a slice
         rename_i e
         refine ⟨?_, .inr (.inr (.inr (.inl ⟨e, rfl⟩)))⟩
         have hcase : (cs = [.slice none 0 0] ∧ d = .nil) ∨ ∃ a len cap, cs = [.slice (some a) len cap] ∧ len ≤ cap ∧ ∃ elems rest,
             (List.range len).mapM (fun i => (w.cells? 0 (a.add (i * P.cellsOf e)) (P.cellsOf e)).bind (DataW.trod enc P w 0 spare held fuel e)) = some elems ∧
             d = .slice (elems.map (·.1)) rest := by
           cases cs with
           | nil => simp [DataW.trod, hu] at h
           | cons v r =>
             cases r with
             | cons v2 r2 => cases v <;> simp [DataW.trod, hu] at h
             | nil =>
               cases v <;> try (simp [DataW.trod, hu] at h; done)
               rename_i a len cap
               cases a with
               | none =>
                 cases len <;> cases cap <;> simp [DataW.trod, hu] at h
                 exact .inl ⟨rfl, h.1.symm⟩
               | some a =>
                 simp only [DataW.trod, hu] at h
                 split at h <;> first | (cases h; done) | skip
                 rename_i hc
                 obtain ⟨_, hlc, _⟩ := hc
                 cases hm1 : (List.range len).mapM (fun i => (w.cells? 0 (a.add (i * P.cellsOf e)) (P.cellsOf e)).bind (DataW.trod enc P w 0 spare held fuel e)) with
                 | none => rw [hm1] at h; cases h
                 | some elems =>
                   rw [hm1] at h
                   simp only [Option.bind_some] at h
                   rw [Option.map_eq_some_iff] at h
                   obtain ⟨rest, _, h2⟩ := h
                   cases h2
                   exact .inr ⟨a, len, cap, rfl, hlc, elems, _, hm1, rfl⟩
         rcases hcase with ⟨rfl, rfl⟩ | ⟨a, len, cap, rfl, hlc, elems, rest, hel, rfl⟩
         · refine ⟨rfl, fun q hq => by simp [z4e] at hq; subst hq; rfl, ?_⟩
           simp only [z4e, VRs]
           exact ⟨⟨_, rfl, by simp only [VR]; exact .inl ⟨trivial, trivial, trivial, rfl⟩⟩, trivial⟩
         · obtain ⟨hlen, hat⟩ := zoc hel
           simp at hlen
           -- the cells of each element
           have hcells : ∀ i, i < len → ∃ ci x, w.cells? 0 (a.add (i * P.cellsOf e)) (P.cellsOf e) = some ci ∧ elems[i]? = some x ∧ DataW.trod enc P w 0 spare held fuel e ci = some x := by
             intro i hi
             obtain ⟨x, h1, h2⟩ := hat i i (by simp [hi])
             rw [Option.bind_eq_some_iff] at h2
             obtain ⟨ci, h3, h4⟩ := h2
             exact ⟨ci, x, h3, h1, h4⟩
           let css : List (List Value) := (List.range len).map fun i => (w.cells? 0 (a.add (i * P.cellsOf e)) (P.cellsOf e)).getD []
           have hcss : ∀ i, i < len → css[i]? = some ((w.cells? 0 (a.add (i * P.cellsOf e)) (P.cellsOf e)).getD []) := fun i hi => by simp [css, hi]
           have hsz : ∀ cc, cc ∈ css → cc.length = P.cellsOf e := by
             intro cc hcc
             simp only [css, List.mem_map, List.mem_range] at hcc
             obtain ⟨i, hi, rfl⟩ := hcc
             obtain ⟨ci, x, h1, _, _⟩ := hcells i hi
             rw [h1]; exact (zvr h1).1
           obtain ⟨h5, h6, h7⟩ := z1e2 (w := w) (c := c) (sz := P.cellsOf e) (ds := elems.map (·.1)) (css := css) (by simp [css, hlen]) (fun i d' cs' hd hc => by
             have hi : i < len := by
               have := (List.getElem?_eq_some_iff.1 hc).1; simpa [css] using this
             obtain ⟨ci, x, h1, h2, h3⟩ := hcells i hi
             rw [List.getElem?_map, h2] at hd
             simp at hd
             rw [hcss i hi, h1] at hc
             simp at hc
             subst hc; subst hd
             exact ⟨(ih n e ci x.1 x.2 hp h3).1, (zvr h1).1⟩)
           have hlen2 : (z3j (elems.map (·.1))).length = len * P.cellsOf e := by rw [h5]; simp [hlen]
           -- where the cells lie
           have hlie : ∀ j, j < len * P.cellsOf e → ∃ v, a.spot = none ∧ w.cell? ⟨a.block, a.off + j, none⟩ = some v ∧ css.flatten[j]? = some v := by
             intro j hj
             have hpos : 0 < P.cellsOf e := by
               rcases Nat.eq_zero_or_pos (P.cellsOf e) with h0 | h0
               · rw [h0] at hj; simp at hj
               · exact h0
             have hi : j / P.cellsOf e < len := (Nat.div_lt_iff_lt_mul hpos).2 hj
             have hr : j % P.cellsOf e < P.cellsOf e := Nat.mod_lt _ hpos
             obtain ⟨ci, x, h1, _, _⟩ := hcells _ hi
             obtain ⟨g1, g2⟩ := zvr h1
             have hci : ∃ v, ci[j % P.cellsOf e]? = some v := ⟨ci[j % P.cellsOf e], by simp [g1, hr]⟩
             obtain ⟨v, hv⟩ := hci
             have hcell : w.cell? ((a.add (j / P.cellsOf e * P.cellsOf e)).add (j % P.cellsOf e)) = some v := by rw [g2 _ hr, hv]
             have hfl : css.flatten[j]? = some v := by
               have := z10o (sz := P.cellsOf e) hsz (hcss _ hi) hr
               rw [Nat.div_add_mod'] at this
               rw [this, h1]; exact hv
             by_cases hs : a.spot = none
             · refine ⟨v, hs, ?_, hfl⟩
               have e1 : ∀ k, a.add k = ⟨a.block, a.off + k, none⟩ := fun k => by
                 cases a with
                 | mk b o s => simp only at hs; subst hs; exact z7d b o k
               rw [e1, z7d] at hcell
               have : a.off + j / P.cellsOf e * P.cellsOf e + j % P.cellsOf e = a.off + j := by
                 rw [Nat.add_assoc, Nat.div_add_mod']
               rw [this] at hcell; exact hcell
             · -- a place within no cell: the first cell couldn't be read
               exfalso
               have h0 : 0 < len := Nat.lt_of_le_of_lt (Nat.zero_le _) hi
               obtain ⟨c0, x0, q1, _, _⟩ := hcells 0 h0
               obtain ⟨q2, q3⟩ := zvr q1
               have := q3 0 hpos
               have e0 : (a.add (0 * P.cellsOf e)).add 0 = a := by simp [Addr.add]
               rw [e0] at this
               have hv0 : ∃ v0, c0[0]? = some v0 := ⟨c0[0], by simp [q2, hpos]⟩
               obtain ⟨v0, hv0⟩ := hv0
               rw [hv0] at this
               unfold World.cell? at this
               have hsome : a.spot.isSome = true := by
                 cases hsp : a.spot with
                 | none => exact absurd hsp hs
                 | some _ => rfl
               split at this
               · rw [if_pos hsome] at this; cases this
               · cases this
           refine ⟨rfl, fun q hq => by simp [z4e] at hq; subst hq; rfl, ?_⟩
           simp only [z4e, VRs]
           refine ⟨⟨_, rfl, ?_⟩, trivial⟩
           simp only [VR]
           refine .inr ⟨a, cap, by simp [hlen], by simpa [hlen] using hlc, ?_, trivial, h6, z2d fun j p hp' => ?_⟩
           · rw [hlen2]
             by_cases h0 : len * P.cellsOf e = 0
             · exact .inl h0
             · obtain ⟨v, hs, hv, _⟩ := hlie 0 (Nat.pos_of_ne_zero h0)
               have hblt : a.block < w.heap.size := by
                 unfold World.cell? at hv
                 split at hv
                 · rename_i hb; exact (Array.getElem?_eq_some_iff.1 hb).1
                 · cases hv
               exact .inr ⟨hs, hblt, by rw [hm]; simp, fun i k h => by rw [hT] at h; simp at h, hok _ _⟩
           · have hj : j < len * P.cellsOf e := by
               have := (List.getElem?_eq_some_iff.1 hp').1
               rw [hlen2] at this; exact this
             obtain ⟨v, _, hv, hf⟩ := hlie j hj
             obtain ⟨v', h8, h9⟩ := z0s h7 hp'
             rw [hf] at h8; cases h8
             exact ⟨v, hv, h9⟩
       · -- an array
         rename_i k e
         simp only [Bool.and_eq_true, beq_iff_eq] at hp
         obtain ⟨hpe, hsize⟩ := hp
         have hcase : cs.length = P.cellsOf t ∧ ∃ xs, (List.range k).mapM (fun i => DataW.trod enc P w 0 spare held fuel e ((cs.drop (i * P.cellsOf e)).take (P.cellsOf e))) = some xs ∧ d = .agg (xs.map (·.1)) := by
           have h' : (if cs.length = P.cellsOf t then ((List.range k).mapM fun i => DataW.trod enc P w 0 spare held fuel e ((cs.drop (i * P.cellsOf e)).take (P.cellsOf e))).map fun xs => (.agg (xs.map (·.1)), xs.flatMap (·.2)) else none) = some (d, ps) := by
             simpa only [DataW.trod, hu] using h
           split at h' <;> first | (cases h'; done) | skip
           rename_i hl
           rw [Option.map_eq_some_iff] at h'
           obtain ⟨xs, h1, h2⟩ := h'
           cases h2
           exact ⟨hl, xs, h1, rfl⟩
         obtain ⟨hl, xs, hxs, rfl⟩ := hcase
         refine ⟨?_, .inr (.inr (.inr (.inr hl)))⟩
         obtain ⟨hlen, hat⟩ := zoc hxs
         simp at hlen
         let css : List (List Value) := (List.range k).map fun i => (cs.drop (i * P.cellsOf e)).take (P.cellsOf e)
         have hparts : ∀ i, i < k → ((cs.drop (i * P.cellsOf e)).take (P.cellsOf e)).length = P.cellsOf e := by
           intro i hi
           have : (i + 1) * P.cellsOf e ≤ k * P.cellsOf e := Nat.mul_le_mul_right _ hi
           rw [Nat.add_mul, Nat.one_mul] at this
           rw [List.length_take, List.length_drop, hl, hsize]; omega
         obtain ⟨h5, h6, h7⟩ := z1e2 (w := w) (c := c) (sz := P.cellsOf e) (ds := xs.map (·.1)) (css := css) (by simp [css, hlen]) (fun i d' cs' hd hc => by
           have hi : i < k := by
             have := (List.getElem?_eq_some_iff.1 hc).1; simpa [css] using this
           obtain ⟨x, h1, h2⟩ := hat i i (by simp [hi])
           rw [List.getElem?_map, h1] at hd
           simp at hd
           simp [css, hi] at hc
           subst hc; subst hd
           exact ⟨(ih n e _ x.1 x.2 hpe h2).1, hparts i hi⟩)
         have hfl : ∀ j, j < k * P.cellsOf e → css.flatten[j]? = cs[j]? := by
           intro j hj
           have hpos : 0 < P.cellsOf e := by
             rcases Nat.eq_zero_or_pos (P.cellsOf e) with h0 | h0
             · rw [h0] at hj; simp at hj
             · exact h0
           have hi : j / P.cellsOf e < k := (Nat.div_lt_iff_lt_mul hpos).2 hj
           have hr : j % P.cellsOf e < P.cellsOf e := Nat.mod_lt _ hpos
           have := z10o (sz := P.cellsOf e) (css := css) (fun c hc => by
             simp only [css, List.mem_map, List.mem_range] at hc
             obtain ⟨i, hi, rfl⟩ := hc
             exact hparts i hi) (show css[j / P.cellsOf e]? = some _ from by simp [css, hi]; rfl) hr
           rw [Nat.div_add_mod'] at this
           rw [this, List.getElem?_take, if_pos hr, List.getElem?_drop, Nat.div_add_mod']
         have hle : (xs.map (·.1)).length = k := by simp [hlen]
         refine ⟨by simp only [z4e]; rw [h5, hle, hl, hsize], by simpa only [z4e] using h6, ?_⟩
         simp only [z4e]
         refine zem h7 fun j hj => hfl j (by rw [h5, hle] at hj; exact hj)
       · -- a struct
         rename_i fs
         simp only [Bool.and_eq_true] at hp
         obtain ⟨hpf, htile⟩ := hp
         have hcase : cs.length = P.cellsOf t ∧ ∃ xs, fs.toList.mapM (fun f => DataW.trod enc P w 0 spare held fuel f.type ((cs.drop f.offset).take (P.cellsOf f.type))) = some xs ∧ d = .agg (xs.map (·.1)) := by
           have h' : (if cs.length = P.cellsOf t then (fs.toList.mapM fun f => DataW.trod enc P w 0 spare held fuel f.type ((cs.drop f.offset).take (P.cellsOf f.type))).map fun xs => (.agg (xs.map (·.1)), xs.flatMap (·.2)) else none) = some (d, ps) := by
             simpa only [DataW.trod, hu] using h
           split at h' <;> first | (cases h'; done) | skip
           rename_i hl
           rw [Option.map_eq_some_iff] at h'
           obtain ⟨xs, h1, h2⟩ := h'
           cases h2
           exact ⟨hl, xs, h1, rfl⟩
         obtain ⟨hl, xs, hxs, rfl⟩ := hcase
         refine ⟨?_, .inr (.inr (.inr (.inr hl)))⟩
         -- field by field
         have key : ∀ (gs : List Field) (off : Nat) (ys : List (DataW H × List MemPlace)), (∀ f, f ∈ gs → z9b P n f.type = true) → zer P gs off (P.cellsOf t) = true →
             gs.mapM (fun f => DataW.trod enc P w 0 spare held fuel f.type ((cs.drop f.offset).take (P.cellsOf f.type))) = some ys →
             off + (z3j (ys.map (·.1))).length = P.cellsOf t ∧ Leafs (z3j (ys.map (·.1))) ∧ VRs w c (z3j (ys.map (·.1))) (fun i => cs[off + i]?) := by
           intro gs
           induction gs with
           | nil =>
             intro off ys _ ht hm'
             simp at hm'; subst hm'
             simp only [zer, beq_iff_eq] at ht
             exact ⟨by simpa [z3j] using ht, fun q hq => by simp [z3j] at hq, by simp only [List.map_nil, z3j, VRs]⟩
           | cons f gs ihg =>
             intro off ys hpl ht hm'
             simp only [zer, Bool.and_eq_true, beq_iff_eq] at ht
             obtain ⟨ho, ht⟩ := ht
             rw [List.mapM_cons] at hm'
             cases hf : DataW.trod enc P w 0 spare held fuel f.type ((cs.drop f.offset).take (P.cellsOf f.type)) with
             | none => rw [hf] at hm'; cases hm'
             | some x =>
               rw [hf] at hm'
               cases hg : gs.mapM (fun f => DataW.trod enc P w 0 spare held fuel f.type ((cs.drop f.offset).take (P.cellsOf f.type))) with
               | none => rw [hg] at hm'; cases hm'
               | some zs =>
                 rw [hg] at hm'
                 simp at hm'
                 subst hm'
                 obtain ⟨⟨h1, h2, h3⟩, _⟩ := ih n f.type _ x.1 x.2 (hpl f (by simp)) hf
                 obtain ⟨h4, h5, h6⟩ := ihg (off + P.cellsOf f.type) zs (fun g hg => hpl g (by simp [hg])) ht hg
                 have hlf : ((cs.drop f.offset).take (P.cellsOf f.type)).length = P.cellsOf f.type := by
                   simp; omega
                 rw [hlf] at h1
                 refine ⟨by simp only [List.map_cons, z3j, List.length_append]; omega, fun q hq => ?_, ?_⟩
                 · simp only [List.map_cons, z3j, List.mem_append] at hq
                   exact hq.elim (h2 q) (h5 q)
                 · simp only [List.map_cons, z3j]
                   refine zw5 (zem h3 fun i hi => ?_) (zem h6 fun i hi => ?_)
                   · rw [List.getElem?_take, if_pos (by omega), List.getElem?_drop, ho]
                   · rw [h1, Nat.add_assoc]
         obtain ⟨h4, h5, h6⟩ := key fs.toList 0 xs (fun f hf => List.all_eq_true.1 hpf f hf) htile hxs
         refine ⟨by simp only [z4e]; omega, by simpa only [z4e] using h5, ?_⟩
         simp only [z4e]
         exact zem h6 fun i hi => by rw [Nat.zero_add]
end Go.Ab
namespace Go.Ab
open Go.RowKit (Below)
open Go.ChangeShapes Go.WideShapes
def Fits {H : Type} (P : Program) : Nat → TypeId → DataW H → Prop
 | 0, _, _ => False
 | n + 1, t, d =>
   match P.underlying t with
   | some .bool => ∃ b, d = .lit (.bool b)
   | some (.int k) => ∃ x, d = .lit (.int k x) ∧ (Lit.int k x).wf = true
   | some .string => ∃ l, d = .lit (.string l) ∧ l.length ≤ maxLen
   | some (.slice e) => d = .nil ∨ ∃ es sp, d = .slice es sp ∧ es.length ≤ maxLen ∧ ∀ x, x ∈ es → Fits P n e x
   | some (.array k e) => ∃ xs, d = .agg xs ∧ xs.length = k ∧ ∀ x, x ∈ xs → Fits P n e x
   | some (.struct fs) => ∃ xs, d = .agg xs ∧ xs.length = fs.size ∧ ∀ (i : Nat) f x, fs[i]? = some f → xs[i]? = some x → Fits P n f.type x
   | _ => False
theorem z1m1 {H : Type} {enc : TypeId × Value → H} {P : Program} {w : World} {spare : Nat → Bool} {held : Bool} :
   ∀ (fuel n : Nat) (t : TypeId) (cs : List Value) (d : DataW H) (ps : List MemPlace), z9b P n t = true → DataW.trod enc P w 0 spare held fuel t cs = some (d, ps) → Fits P n t d := by
 intro fuel
 induction fuel with
 | zero => intro n t cs d ps _ h; simp [DataW.trod] at h
 | succ fuel ih =>
   intro n t cs d ps hp h
   cases n with
   | zero => simp [z9b] at hp
   | succ n =>
     simp only [z9b] at hp
     simp only [Fits]
     cases hu : P.underlying t with
     | none => rw [hu] at hp; cases hp
     | some u =>
       rw [hu] at hp
       cases u <;> simp only [Bool.false_eq_true] at hp ⊢
       · cases cs with
         | nil => simp [DataW.trod, hu] at h
         | cons v r => cases r <;> cases v <;> simp [DataW.trod, hu] at h; exact ⟨_, h.1.symm⟩
       · cases cs with
         | nil => simp [DataW.trod, hu] at h
         | cons v r =>
           cases r <;> cases v <;> simp [DataW.trod, hu] at h ⊢
           obtain ⟨⟨h1, h0⟩, h2, _⟩ := h; exact ⟨_, h2.symm, h0⟩
       · cases cs with
         | nil => simp [DataW.trod, hu] at h
         | cons v r => cases r <;> cases v <;> simp [DataW.trod, hu] at h ⊢; exact ⟨_, h.2.1.symm, by simpa using h.1⟩
       · rename_i e
         cases cs with
         | nil => simp [DataW.trod, hu] at h
         | cons v r =>
           cases r with
           | cons v2 r2 => cases v <;> simp [DataW.trod, hu] at h
           | nil =>
             cases v <;> try (simp [DataW.trod, hu] at h; done)
             rename_i a len cap
             cases a with
             | none =>
               cases len <;> cases cap <;> simp [DataW.trod, hu] at h
               exact .inl h.1.symm
             | some a =>
               simp only [DataW.trod, hu] at h
               split at h <;> first | (cases h; done) | skip
               rename_i hcap
               cases hm1 : (List.range len).mapM (fun i => (w.cells? 0 (a.add (i * P.cellsOf e)) (P.cellsOf e)).bind (DataW.trod enc P w 0 spare held fuel e)) with
               | none => rw [hm1] at h; cases h
               | some elems =>
                 rw [hm1] at h
                 simp only [Option.bind_some] at h
                 rw [Option.map_eq_some_iff] at h
                 obtain ⟨rest, _, h2⟩ := h
                 cases h2
                 obtain ⟨hlen, hat⟩ := zoc hm1
                 refine .inr ⟨_, _, rfl, by rw [List.length_map, hlen, List.length_range]; omega, fun x hx => ?_⟩
                 rw [List.mem_map] at hx
                 obtain ⟨y, hy, rfl⟩ := hx
                 obtain ⟨i, hi⟩ := List.mem_iff_getElem?.1 hy
                 have hil : i < len := by have := (List.getElem?_eq_some_iff.1 hi).1; simpa [hlen] using this
                 obtain ⟨z, h3, h4⟩ := hat i i (by simp [hil])
                 rw [hi] at h3; cases h3
                 rw [Option.bind_eq_some_iff] at h4
                 obtain ⟨ci, _, h5⟩ := h4
                 exact ih n e ci y.1 y.2 hp h5
       · rename_i k e
         simp only [Bool.and_eq_true, beq_iff_eq] at hp
         have h' : (if cs.length = P.cellsOf t then ((List.range k).mapM fun i => DataW.trod enc P w 0 spare held fuel e ((cs.drop (i * P.cellsOf e)).take (P.cellsOf e))).map fun xs => (.agg (xs.map (·.1)), xs.flatMap (·.2)) else none) = some (d, ps) := by
           simpa only [DataW.trod, hu] using h
         split at h' <;> first | (cases h'; done) | skip
         rw [Option.map_eq_some_iff] at h'
         obtain ⟨xs, h1, h2⟩ := h'
         cases h2
         obtain ⟨hlen, hat⟩ := zoc h1
         refine ⟨_, rfl, by simpa using hlen, fun x hx => ?_⟩
         rw [List.mem_map] at hx
         obtain ⟨y, hy, rfl⟩ := hx
         obtain ⟨i, hi⟩ := List.mem_iff_getElem?.1 hy
         have hil : i < k := by have := (List.getElem?_eq_some_iff.1 hi).1; simpa [hlen] using this
         obtain ⟨z, h3, h4⟩ := hat i i (by simp [hil])
         rw [hi] at h3; cases h3
         exact ih n e _ y.1 y.2 hp.1 h4
       · rename_i fs
         simp only [Bool.and_eq_true] at hp
         have h' : (if cs.length = P.cellsOf t then (fs.toList.mapM fun f => DataW.trod enc P w 0 spare held fuel f.type ((cs.drop f.offset).take (P.cellsOf f.type))).map fun xs => (.agg (xs.map (·.1)), xs.flatMap (·.2)) else none) = some (d, ps) := by
           simpa only [DataW.trod, hu] using h
         split at h' <;> first | (cases h'; done) | skip
         rw [Option.map_eq_some_iff] at h'
         obtain ⟨xs, h1, h2⟩ := h'
         cases h2
         obtain ⟨hlen, hat⟩ := zoc h1
         refine ⟨_, rfl, by simpa using hlen, fun i f x hf hx => ?_⟩
         rw [List.getElem?_map] at hx
         cases hy : xs[i]? with
         | none => rw [hy] at hx; cases hx
         | some y =>
           rw [hy] at hx; simp at hx; subst hx
           obtain ⟨z, h3, h4⟩ := hat i f (by simpa using hf)
           rw [hy] at h3; cases h3
           exact ih n f.type _ y.1 y.2 (List.all_eq_true.1 hp.1 f (by simpa using Array.mem_of_getElem? hf)) h4
def argPV {H : Type} (P : Program) (t : TypeId) (d : DataW H) : PV := bif tyAgg P t == some true then .agg (z4e d) else (z4e d).headD .dead
def cx0 : Cx := { m := [], T := [], ok := fun _ _ => True }
theorem z1qu {H : Type} {enc : TypeId × Value → H} {P : Program} {w : World} {n : Nat} {t : TypeId} {v : Value} {d : DataW H} {ps : List MemPlace} {spare : Nat → Bool} {held : Bool} {base : Nat} (hp : z9b P n t = true)
   (hv : Value.okWide P w .any base t v) (h : DataW.Trod enc P w 0 spare held t v d ps) : VR w cx0 (argPV P t d) v := by
 obtain ⟨fuel, hf⟩ := h
 obtain ⟨⟨h1, h2, h3⟩, _⟩ := z1r4 (w := w) (c := cx0) rfl rfl (fun _ _ => trivial) fuel n t _ d ps hp hf
 have leafy : tyAgg P t = some false → v.cells = #[v] → VR w cx0 (argPV P t d) v := by
   intro ha hc
   rw [hc] at h1 h3
   unfold argPV
   rw [ha]
   cases hcd : z4e d with
   | nil => rw [hcd] at h1; simp at h1
   | cons p r =>
     rw [hcd] at h3
     simp only [VRs] at h3
     obtain ⟨⟨u, hu, hr⟩, _⟩ := h3
     simp at hu; subst hu
     exact hr
 cases n with
 | zero => simp [z9b] at hp
 | succ n =>
   simp only [z9b] at hp
   cases hu : P.underlying t with
   | none => rw [hu] at hp; cases hp
   | some u =>
     rw [hu] at hp
     cases u <;> simp only [Bool.false_eq_true] at hp
     · obtain ⟨b, rfl⟩ := okWide_bool hu hv
       exact leafy (by simp [tyAgg, hu]) rfl
     · obtain ⟨x, rfl⟩ := okWide_int hu hv
       exact leafy (by simp [tyAgg, hu]) rfl
     · obtain ⟨x, rfl⟩ := okWide_string hu hv
       exact leafy (by simp [tyAgg, hu]) rfl
     · obtain ⟨a, l, c, rfl⟩ := okWide_slice hu hv
       exact leafy (by simp [tyAgg, hu]) rfl
     · have ha : tyAgg P t = some true := by simp [tyAgg, hu]
       simp only [Value.okWide, hu] at hv
       obtain ⟨cs, rfl, _⟩ := hv
       unfold argPV; rw [ha]
       simp only [BEq.rfl, cond_true, VR]
       exact ⟨cs, rfl, by simpa [Value.cells] using h1.symm, h2, by simpa [Value.cells] using h3⟩
     · have ha : tyAgg P t = some true := by simp [tyAgg, hu]
       simp only [Value.okWide, hu] at hv
       obtain ⟨cs, rfl, _⟩ := hv
       unfold argPV; rw [ha]
       simp only [BEq.rfl, cond_true, VR]
       exact ⟨cs, rfl, by simpa [Value.cells] using h1.symm, h2, by simpa [Value.cells] using h3⟩
theorem z1hb {H : Type} {enc : TypeId × Value → H} {P : Program} {w : World} {n : Nat} {spare : Nat → Bool} {held : Bool} {base : Nat} : ∀ {ts : List TypeId} {vs : List Value} {ds : List (DataW H)} {ps : List MemPlace},
   DataW.TrodAll enc P w 0 spare held ts vs ds ps → (∀ t, t ∈ ts → z9b P n t = true) → (∀ (j : Nat) t v, ts[j]? = some t → vs[j]? = some v → Value.okWide P w .any base t v) →
   vs.length = (List.zipWith (argPV P) ts ds).length ∧ VRs w cx0 (List.zipWith (argPV P) ts ds) (fun i => vs[i]?)
 | [], vs, ds, ps, h, _, _ => by
   cases vs <;> cases ds <;> simp [DataW.TrodAll] at h
   exact ⟨rfl, by simp only [List.zipWith_nil_left, VRs]⟩
 | t :: ts, vs, ds, ps, h, hp, hv => by
   obtain ⟨v, vs', d, ds', p, q, rfl, rfl, rfl, h1, h2⟩ := trodAll_cons h
   obtain ⟨h3, h4⟩ := z1hb h2 (fun t ht => hp t (by simp [ht])) (fun j t v ht hv' => hv (j + 1) t v (by simpa using ht) (by simpa using hv'))
   refine ⟨by simp only [List.zipWith_cons_cons, List.length_cons, h3], ?_⟩
   simp only [List.zipWith_cons_cons, VRs]
   exact ⟨⟨v, rfl, z1qu (hp t (by simp)) (hv 0 t v rfl rfl) h1⟩, by simpa using h4⟩
theorem z1gq {H : Type} {enc : TypeId × Value → H} {P : Program} {w : World} {n : Nat} {spare : Nat → Bool} {held : Bool} : ∀ {ts : List TypeId} {vs : List Value} {ds : List (DataW H)} {ps : List MemPlace},
   DataW.TrodAll enc P w 0 spare held ts vs ds ps → (∀ t, t ∈ ts → z9b P n t = true) → ∀ (j : Nat) t d, ts[j]? = some t → ds[j]? = some d → Fits P n t d
 | [], vs, ds, ps, h, _, j, t, d, ht, _ => by simp at ht
 | t :: ts, vs, ds, ps, h, hp, j, t', d', ht, hd => by
   obtain ⟨v, vs', d, ds', p, q, rfl, rfl, rfl, h1, h2⟩ := trodAll_cons h
   cases j with
   | zero =>
     simp at ht hd; subst ht; subst hd
     obtain ⟨fuel, hf⟩ := h1
     exact z1m1 fuel n t _ d p (hp t (by simp)) hf
   | succ j => exact z1gq h2 (fun t ht => hp t (by simp [ht])) j t' d' (by simpa using ht) (by simpa using hd)
theorem z1oo (w : World) (hs : gb ≤ w.heap.size) (hg : Glob w) : Good w cx0 [] (List.replicate 0 false) where
 len := rfl
 inj := fun i j k h => by simp [cx0] at h
 obj := fun b o h => by simp at h
 tl := rfl
 tal := fun i h => by simp at h
 tdead := fun i h => by simp at h
 tok := fun i k j h => by simp [cx0] at h
 tinj := fun i i' k j j' h => by simp [cx0] at h
 okn := fun _ _ _ => trivial
 okm := fun _ _ _ _ _ => trivial
 okt := fun _ _ _ _ _ => trivial
 oko := fun _ _ _ _ _ => trivial
 gl := ⟨hs, fun k h => by simp [cx0] at h, fun i k j h => by simp [cx0] at h, hg⟩
theorem z1nt {H : Type} {enc : TypeId × Value → H} {P : Program} {f : FuncId} {W : World} {n : Nat} {spare : Nat → Bool} {held : Bool} {base : Nat} {ts : List TypeId} {args : Array Value} {ds : List (DataW H)}
   {ps : List MemPlace} (hA : DataW.TrodAll enc P W 0 spare held ts args.toList ds ps) (hp : ∀ t, t ∈ ts → z9b P n t = true)
   (hv : ∀ (j : Nat) t v, ts[j]? = some t → args[j]? = some v → Value.okWide P W .any base t v)
   (hs : gb ≤ W.heap.size) (hg : Glob W) (hc : ACalls P f (List.zipWith (argPV P) ts ds) [] 0 (fun p _ _ => p = .val (.bool true))) :
   Calls P f args W fun e W' => e = .returned (.bool true) ∧ Below W.heap.size W W' := by
 obtain ⟨h1, h2⟩ := z1hb hA hp (fun j t v ht hv' => hv j t v ht (by simpa using hv'))
 refine (hc W cx0 args (z1oo W hs hg) rfl (by simpa using h1) (by simpa using h2)).mono ?_
 rintro e W' ⟨v, p, H', ts', c', rfl, rfl, _, hvr, x⟩
 rw [zb0] at hvr
 refine ⟨by rw [hvr.1], x.os, x.tape, x.output, x.size, fun k hk => x.blocks k hk (by simp [cx0]) (fun i j h => by simp [cx0] at h)⟩
theorem z1c6 {H : Type} {enc : TypeId × Value → H} {P : Program} {W W' : World} (hl : laidOutB P = true) (bel : Below W.heap.size W W') : ∀ {ts : List TypeId} {vs : List Value} {ds : List (DataW H)} {ps : List MemPlace},
   DataW.TrodAll enc P W 0 (fun _ => true) true ts vs ds ps → (∀ t, t ∈ ts → P.readableRec t = true ∧ t < P.types.size) →
   DataW.TrodAll enc P W' 0 (fun b => decide (b < W.heap.size)) true ts vs ds ps
 | [], vs, ds, ps, h, _ => by
   cases vs <;> cases ds <;> simp [DataW.TrodAll] at h
   subst h; rfl
 | t :: ts, vs, ds, ps, h, hp => by
   obtain ⟨v, vs', d, ds', p, q, rfl, rfl, rfl, h1, h2⟩ := trodAll_cons h
   have hlt : ∀ x ∈ p, x.block < W.heap.size := by obtain ⟨m, hm⟩ := h1; exact DataW.trod_lt m _ _ _ hm
   exact trodAll_cons_mk (Below.trod hl (hp t (by simp)).1 (hp t (by simp)).2 h1 bel hlt) (z1c6 hl bel h2 (fun t ht => hp t (by simp [ht])))
end Go.Ab
namespace Go.Ab
end Go.Ab