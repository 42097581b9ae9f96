import Derived.Test.YtfbdjicfkcklfaaAb6to10
import Derived.Below
import GoSem.ClaimChange
import Derived.Carry
import Derived.WideShapes
import Derived.OpenShut
import Derived.DeepKeys
namespace Go.Ab
end Go.Ab
namespace Go.Ab
open Go.RowKit (Below)
mutual
def z3r {H : Type} : DataW H → List PV
 | .lit (.bool b) => [.val (.bool b)]
 | .lit (.int k n) => [.val (.int k n)]
 | .lit (.string l) => [.val (.string ⟨l.toArray⟩)]
 | .lit _ => [.dead]
 | .nil => [.tr 0 [] .no]
 | .slice es _ => [.tr es.length (z2x es) .no]
 | .agg ps => z2x ps
 | .ptr _ => [.dead]
 | .iface _ _ => [.dead]
 | .map _ => [.dead]
 | .held _ => [.dead]
def z2x {H : Type} : List (DataW H) → List PV
 | [] => []
 | d :: ds => z3r d ++ z2x ds
end
def ze7 (P : Program) : List Field → Nat → Nat → Bool
 | [], off, n => off == n
 | f :: fs, off, n => f.offset == off && ze7 P fs (off + P.cellsOf f.type) n
def z7n (P : Program) : Nat → TypeId → Bool
 | 0, _ => false
 | n + 1, t =>
   match P.underlying t with
   | some .bool | some (.int _) | some .string => true
   | some (.slice e) => z7n P n e
   | some (.array k e) => z7n P n e && P.cellsOf t == k * P.cellsOf e
   | some (.struct fs) => fs.toList.all (fun f => z7n P n f.type) && ze7 P fs.toList 0 (P.cellsOf t)
   | _ => false
theorem zky {α β : Type} {f : α → Option β} : ∀ {l : List α} {xs : List β}, l.mapM f = some xs → xs.length = l.length ∧ ∀ (i : Nat) a, l[i]? = some a → ∃ x, xs[i]? = some x ∧ f a = some x
 | [], xs, h => by
   simp at h; subst h
   exact ⟨rfl, fun i a h => by simp at h⟩
 | a :: l, xs, h => by
   rw [List.mapM_cons] at h
   cases hf : f a with
   | none => rw [hf] at h; cases h
   | some x =>
     rw [hf] at h
     cases hl : l.mapM f with
     | none => rw [hl] at h; cases h
     | some ys =>
       rw [hl] at h
       simp at h
       subst h
       obtain ⟨h1, h2⟩ := zky hl
       refine ⟨by simp [h1], fun i b hb => ?_⟩
       cases i with
       | zero => simp at hb; subst hb; exact ⟨x, rfl, hf⟩
       | succ i => exact h2 i b (by simpa using hb)
theorem zrn {w : World} {base : Nat} {a : Addr} {n : Nat} {cs : List Value} (h : w.cells? base a n = some cs) : cs.length = n ∧ ∀ i, i < n → w.cell? (a.add i) = cs[i]? := by
 unfold World.cells? at h
 split at h
 · obtain ⟨h1, h2⟩ := zky h
   refine ⟨by simpa using h1, fun i hi => ?_⟩
   obtain ⟨x, h3, h4⟩ := h2 i i (by simp [hi])
   rw [h4, h3]
 · cases h
theorem zrh {w : World} {c : Cx} {xs ys : List PV} {f : Nat → Option Value} (h1 : VRs w c xs f) (h2 : VRs w c ys (fun i => f (xs.length + i))) : VRs w c (xs ++ ys) f :=
 z2w fun i p hp => by
   by_cases hi : i < xs.length
   · rw [List.getElem?_append_left hi] at hp; exact z1h h1 hp
   · rw [List.getElem?_append_right (Nat.le_of_not_lt hi)] at hp
     obtain ⟨v, h3, h4⟩ := z1h h2 hp
     exact ⟨v, by have : xs.length + (i - xs.length) = i := by omega
                  rw [this] at h3; exact h3, h4⟩
theorem zfn {w : World} {c : Cx} {xs : List PV} {f g : Nat → Option Value} (h : VRs w c xs f) (hfg : ∀ i, i < xs.length → f i = g i) : VRs w c xs g :=
 z2w fun i p hp => by
   obtain ⟨v, h1, h2⟩ := z1h h hp
   exact ⟨v, by rw [← hfg i (List.getElem?_eq_some_iff.1 hp).1]; exact h1, h2⟩
def Rd {H : Type} (w : World) (c : Cx) (d : DataW H) (cs : List Value) : Prop :=
 (z3r d).length = cs.length ∧ Leafs (z3r d) ∧ VRs w c (z3r d) (fun i => cs[i]?)
theorem z1d0 {H : Type} {w : World} {c : Cx} {sz : Nat} : ∀ {ds : List (DataW H)} {css : List (List Value)}, ds.length = css.length → (∀ (i : Nat) d cs, ds[i]? = some d → css[i]? = some cs → Rd w c d cs ∧ cs.length = sz) →
   (z2x ds).length = ds.length * sz ∧ Leafs (z2x ds) ∧ VRs w c (z2x ds) (fun i => css.flatten[i]?)
 | [], [], _, _ => ⟨by simp [z2x], fun q hq => by simp [z2x] at hq, by simp only [z2x, VRs]⟩
 | d :: ds, cs :: css, hl, h => by
   obtain ⟨⟨h1, h2, h3⟩, h4⟩ := h 0 d cs rfl rfl
   obtain ⟨h5, h6, h7⟩ := z1d0 (ds := ds) (css := css) (by simpa using hl) (fun i d cs hd hc => h (i + 1) d cs (by simpa using hd) (by simpa using hc))
   refine ⟨by simp [z2x, h1, h4, h5, Nat.add_mul, Nat.add_comm], fun q hq => ?_, ?_⟩
   · simp only [z2x, List.mem_append] at hq
     exact hq.elim (h2 q) (h6 q)
   · simp only [z2x, List.flatten_cons]
     refine zrh (zfn h3 fun i hi => ?_) (zfn h7 fun i hi => ?_)
     · rw [List.getElem?_append_left (by omega)]
     · rw [List.getElem?_append_right (by omega)]
       congr 1; omega
 | [], _ :: _, hl, _ => by simp at hl
 | _ :: _, [], hl, _ => by simp at hl
theorem zvx {sz : Nat} : ∀ {css : List (List Value)} {i r : Nat} {cs : List Value}, (∀ c, c ∈ css → c.length = sz) → css[i]? = some cs → r < sz → css.flatten[i * sz + r]? = cs[r]?
 | [], _, _, _, _, h, _ => by simp at h
 | c :: css, 0, r, cs, hsz, h, hr => by
   simp at h; subst h
   rw [List.flatten_cons, List.getElem?_append_left (by rw [hsz c (by simp)]; omega)]; simp
 | c :: css, i + 1, r, cs, hsz, h, hr => by
   have hc := hsz c (by simp)
   rw [List.flatten_cons, List.getElem?_append_right (by rw [hc, Nat.add_mul]; omega), hc]
   have : (i + 1) * sz + r - sz = i * sz + r := by rw [Nat.add_mul]; omega
   rw [this]
   exact zvx (fun c hc => hsz c (by simp [hc])) (by simpa using h) hr
theorem z1pn {H : Type} {enc : TypeId × Value → H} {P : Program} {w : World} {c : Cx} (hm : c.m = []) (hT : c.T = []) (hok : ∀ b e, c.ok b e) {spare : Nat → Bool} {held : Bool} :
   ∀ (fuel n : Nat) (t : TypeId) (cs : List Value) (d : DataW H) (ps : List MemPlace), z7n P n t = true → DataW.trod enc P w 0 spare held fuel t cs = some (d, ps) → Rd w c d cs ∧
     (P.underlying t = some .bool ∨ (∃ k, P.underlying t = some (.int k)) ∨ P.underlying t = some .string ∨ (∃ e, P.underlying t = some (.slice e)) ∨ cs.length = P.cellsOf t) := by
 intro fuel
 induction fuel with
 | zero => intro n t cs d ps _ h; simp [DataW.trod] at h
 | succ fuel ih =>
   intro n t cs d ps hp h
   cases n with
   | zero => simp [z7n] at hp
   | succ n =>
     simp only [z7n] at hp
     cases hu : P.underlying t with
     | none => rw [hu] at hp; cases hp
     | some u =>
       rw [hu] at hp
       cases u <;> simp only [Bool.false_eq_true] at hp
       · -- bool
         refine ⟨?_, .inl rfl⟩
         have hcase : ∃ b, cs = [.bool b] ∧ d = .lit (.bool b) := by
           cases cs with
           | nil => simp [DataW.trod, hu] at h
           | cons v r => cases r <;> cases v <;> simp [DataW.trod, hu] at h ⊢; exact h.1.symm
         obtain ⟨b, rfl, rfl⟩ := hcase
         refine ⟨rfl, fun q hq => by simp [z3r] at hq; subst hq; rfl, ?_⟩
         simp only [z3r, VRs]
         exact ⟨⟨_, rfl, z3s rfl⟩, trivial⟩
       · rename_i k
         refine ⟨?_, .inr (.inl ⟨k, rfl⟩)⟩
         have hcase : ∃ x, cs = [.int k x] ∧ d = .lit (.int k x) := by
           cases cs with
           | nil => simp [DataW.trod, hu] at h
           | cons v r => cases r <;> cases v <;> simp [DataW.trod, hu] at h ⊢; obtain ⟨⟨h1, _⟩, h2, _⟩ := h; exact ⟨_, ⟨h1, rfl⟩, h2.symm⟩
         obtain ⟨x, rfl, rfl⟩ := hcase
         refine ⟨rfl, fun q hq => by simp [z3r] at hq; subst hq; rfl, ?_⟩
         simp only [z3r, VRs]
         exact ⟨⟨_, rfl, z3s rfl⟩, trivial⟩
       · refine ⟨?_, .inr (.inr (.inl rfl))⟩
         have hcase : ∃ x, cs = [.string x] ∧ d = .lit (.string x.data.toList) := by
           cases cs with
           | nil => simp [DataW.trod, hu] at h
           | cons v r => cases r <;> cases v <;> simp [DataW.trod, hu] at h ⊢; exact h.2.1.symm
         obtain ⟨x, rfl, rfl⟩ := hcase
         refine ⟨rfl, fun q hq => by simp [z3r] at hq; subst hq; rfl, ?_⟩
         simp only [z3r, VRs]
         exact ⟨⟨_, rfl, z3s rfl⟩, trivial⟩
       · -- a slice
         rename_i e
         refine ⟨?_, .inr (.inr (.inr (.inl ⟨e, rfl⟩)))⟩
         have hcase : (cs = [.slice none 0 0] ∧ d = .nil) ∨ ∃ a len cap, cs = [.slice (some a) len cap] ∧ len ≤ cap ∧ ∃ elems rest,
             (List.range len).mapM (fun i => (w.cells? 0 (a.add (i * P.cellsOf e)) (P.cellsOf e)).bind (DataW.trod enc P w 0 spare held fuel e)) = some elems ∧
             d = .slice (elems.map (·.1)) rest := by
           cases cs with
           | nil => simp [DataW.trod, hu] at h
           | cons v r =>
             cases r with
             | cons v2 r2 => cases v <;> simp [DataW.trod, hu] at h
             | nil =>
               cases v <;> try (simp [DataW.trod, hu] at h; done)
               rename_i a len cap
               cases a with
               | none =>
                 cases len <;> cases cap <;> simp [DataW.trod, hu] at h
                 exact .inl ⟨rfl, h.1.symm⟩
               | some a =>
                 simp only [DataW.trod, hu] at h
                 split at h <;> first | (cases h; done) | skip
                 rename_i hc
                 obtain ⟨_, hlc, _⟩ := hc
                 cases hm1 : (List.range len).mapM (fun i => (w.cells? 0 (a.add (i * P.cellsOf e)) (P.cellsOf e)).bind (DataW.trod enc P w 0 spare held fuel e)) with
                 | none => rw [hm1] at h; cases h
                 | some elems =>
                   rw [hm1] at h
                   simp only [Option.bind_some] at h
                   rw [Option.map_eq_some_iff] at h
                   obtain ⟨rest, _, h2⟩ := h
                   cases h2
                   exact .inr ⟨a, len, cap, rfl, hlc, elems, _, hm1, rfl⟩
         rcases hcase with ⟨rfl, rfl⟩ | ⟨a, len, cap, rfl, hlc, elems, rest, hel, rfl⟩
         · refine ⟨rfl, fun q hq => by simp [z3r] at hq; subst hq; rfl, ?_⟩
           simp only [z3r, VRs]
           exact ⟨⟨_, rfl, by simp only [VR]; exact .inl ⟨trivial, trivial, trivial, rfl⟩⟩, trivial⟩
         · obtain ⟨hlen, hat⟩ := zky hel
           simp at hlen
           -- the cells of each element
           have hcells : ∀ i, i < len → ∃ ci x, w.cells? 0 (a.add (i * P.cellsOf e)) (P.cellsOf e) = some ci ∧ elems[i]? = some x ∧ DataW.trod enc P w 0 spare held fuel e ci = some x := by
             intro i hi
             obtain ⟨x, h1, h2⟩ := hat i i (by simp [hi])
             rw [Option.bind_eq_some_iff] at h2
             obtain ⟨ci, h3, h4⟩ := h2
             exact ⟨ci, x, h3, h1, h4⟩
           let css : List (List Value) := (List.range len).map fun i => (w.cells? 0 (a.add (i * P.cellsOf e)) (P.cellsOf e)).getD []
           have hcss : ∀ i, i < len → css[i]? = some ((w.cells? 0 (a.add (i * P.cellsOf e)) (P.cellsOf e)).getD []) := fun i hi => by simp [css, hi]
           have hsz : ∀ cc, cc ∈ css → cc.length = P.cellsOf e := by
             intro cc hcc
             simp only [css, List.mem_map, List.mem_range] at hcc
             obtain ⟨i, hi, rfl⟩ := hcc
             obtain ⟨ci, x, h1, _, _⟩ := hcells i hi
             rw [h1]; exact (zrn h1).1
           obtain ⟨h5, h6, h7⟩ := z1d0 (w := w) (c := c) (sz := P.cellsOf e) (ds := elems.map (·.1)) (css := css) (by simp [css, hlen]) (fun i d' cs' hd hc => by
             have hi : i < len := by
               have := (List.getElem?_eq_some_iff.1 hc).1; simpa [css] using this
             obtain ⟨ci, x, h1, h2, h3⟩ := hcells i hi
             rw [List.getElem?_map, h2] at hd
             simp at hd
             rw [hcss i hi, h1] at hc
             simp at hc
             subst hc; subst hd
             exact ⟨(ih n e ci x.1 x.2 hp h3).1, (zrn h1).1⟩)
           have hlen2 : (z2x (elems.map (·.1))).length = len * P.cellsOf e := by rw [h5]; simp [hlen]
           -- where the cells lie
           have hlie : ∀ j, j < len * P.cellsOf e → ∃ v, a.spot = none ∧ w.cell? ⟨a.block, a.off + j, none⟩ = some v ∧ css.flatten[j]? = some v := by
             intro j hj
             have hpos : 0 < P.cellsOf e := by
               rcases Nat.eq_zero_or_pos (P.cellsOf e) with h0 | h0
               · rw [h0] at hj; simp at hj
               · exact h0
             have hi : j / P.cellsOf e < len := (Nat.div_lt_iff_lt_mul hpos).2 hj
             have hr : j % P.cellsOf e < P.cellsOf e := Nat.mod_lt _ hpos
             obtain ⟨ci, x, h1, _, _⟩ := hcells _ hi
             obtain ⟨g1, g2⟩ := zrn h1
             have hci : ∃ v, ci[j % P.cellsOf e]? = some v := ⟨ci[j % P.cellsOf e], by simp [g1, hr]⟩
             obtain ⟨v, hv⟩ := hci
             have hcell : w.cell? ((a.add (j / P.cellsOf e * P.cellsOf e)).add (j % P.cellsOf e)) = some v := by rw [g2 _ hr, hv]
             have hfl : css.flatten[j]? = some v := by
               have := zvx (sz := P.cellsOf e) hsz (hcss _ hi) hr
               rw [Nat.div_add_mod'] at this
               rw [this, h1]; exact hv
             by_cases hs : a.spot = none
             · refine ⟨v, hs, ?_, hfl⟩
               have e1 : ∀ k, a.add k = ⟨a.block, a.off + k, none⟩ := fun k => by
                 cases a with
                 | mk b o s => simp only at hs; subst hs; exact z5y b o k
               rw [e1, z5y] at hcell
               have : a.off + j / P.cellsOf e * P.cellsOf e + j % P.cellsOf e = a.off + j := by
                 rw [Nat.add_assoc, Nat.div_add_mod']
               rw [this] at hcell; exact hcell
             · -- a place within no cell: the first cell couldn't be read
               exfalso
               have h0 : 0 < len := Nat.lt_of_le_of_lt (Nat.zero_le _) hi
               obtain ⟨c0, x0, q1, _, _⟩ := hcells 0 h0
               obtain ⟨q2, q3⟩ := zrn q1
               have := q3 0 hpos
               have e0 : (a.add (0 * P.cellsOf e)).add 0 = a := by simp [Addr.add]
               rw [e0] at this
               have hv0 : ∃ v0, c0[0]? = some v0 := ⟨c0[0], by simp [q2, hpos]⟩
               obtain ⟨v0, hv0⟩ := hv0
               rw [hv0] at this
               unfold World.cell? at this
               have hsome : a.spot.isSome = true := by
                 cases hsp : a.spot with
                 | none => exact absurd hsp hs
                 | some _ => rfl
               split at this
               · rw [if_pos hsome] at this; cases this
               · cases this
           refine ⟨rfl, fun q hq => by simp [z3r] at hq; subst hq; rfl, ?_⟩
           simp only [z3r, VRs]
           refine ⟨⟨_, rfl, ?_⟩, trivial⟩
           simp only [VR]
           refine .inr ⟨a, cap, by simp [hlen], by simpa [hlen] using hlc, ?_, trivial, h6, z2w fun j p hp' => ?_⟩
           · rw [hlen2]
             by_cases h0 : len * P.cellsOf e = 0
             · exact .inl h0
             · obtain ⟨v, hs, hv, _⟩ := hlie 0 (Nat.pos_of_ne_zero h0)
               have hblt : a.block < w.heap.size := by
                 unfold World.cell? at hv
                 split at hv
                 · rename_i hb; exact (Array.getElem?_eq_some_iff.1 hb).1
                 · cases hv
               exact .inr ⟨hs, hblt, by rw [hm]; simp, fun i k h => by rw [hT] at h; simp at h, hok _ _⟩
           · have hj : j < len * P.cellsOf e := by
               have := (List.getElem?_eq_some_iff.1 hp').1
               rw [hlen2] at this; exact this
             obtain ⟨v, _, hv, hf⟩ := hlie j hj
             obtain ⟨v', h8, h9⟩ := z1h h7 hp'
             rw [hf] at h8; cases h8
             exact ⟨v, hv, h9⟩
       · -- an array
         rename_i k e
         simp only [Bool.and_eq_true, beq_iff_eq] at hp
         obtain ⟨hpe, hsize⟩ := hp
         have hcase : cs.length = P.cellsOf t ∧ ∃ xs, (List.range k).mapM (fun i => DataW.trod enc P w 0 spare held fuel e ((cs.drop (i * P.cellsOf e)).take (P.cellsOf e))) = some xs ∧ d = .agg (xs.map (·.1)) := by
           have h' : (if cs.length = P.cellsOf t then ((List.range k).mapM fun i => DataW.trod enc P w 0 spare held fuel e ((cs.drop (i * P.cellsOf e)).take (P.cellsOf e))).map fun xs => (.agg (xs.map (·.1)), xs.flatMap (·.2)) else none) = some (d, ps) := by
             simpa only [DataW.trod, hu] using h
           split at h' <;> first | (cases h'; done) | skip
           rename_i hl
           rw [Option.map_eq_some_iff] at h'
           obtain ⟨xs, h1, h2⟩ := h'
           cases h2
           exact ⟨hl, xs, h1, rfl⟩
         obtain ⟨hl, xs, hxs, rfl⟩ := hcase
         refine ⟨?_, .inr (.inr (.inr (.inr hl)))⟩
         obtain ⟨hlen, hat⟩ := zky hxs
         simp at hlen
         let css : List (List Value) := (List.range k).map fun i => (cs.drop (i * P.cellsOf e)).take (P.cellsOf e)
         have hparts : ∀ i, i < k → ((cs.drop (i * P.cellsOf e)).take (P.cellsOf e)).length = P.cellsOf e := by
           intro i hi
           have : (i + 1) * P.cellsOf e ≤ k * P.cellsOf e := Nat.mul_le_mul_right _ hi
           rw [Nat.add_mul, Nat.one_mul] at this
           rw [List.length_take, List.length_drop, hl, hsize]; omega
         obtain ⟨h5, h6, h7⟩ := z1d0 (w := w) (c := c) (sz := P.cellsOf e) (ds := xs.map (·.1)) (css := css) (by simp [css, hlen]) (fun i d' cs' hd hc => by
           have hi : i < k := by
             have := (List.getElem?_eq_some_iff.1 hc).1; simpa [css] using this
           obtain ⟨x, h1, h2⟩ := hat i i (by simp [hi])
           rw [List.getElem?_map, h1] at hd
           simp at hd
           simp [css, hi] at hc
           subst hc; subst hd
           exact ⟨(ih n e _ x.1 x.2 hpe h2).1, hparts i hi⟩)
         have hfl : ∀ j, j < k * P.cellsOf e → css.flatten[j]? = cs[j]? := by
           intro j hj
           have hpos : 0 < P.cellsOf e := by
             rcases Nat.eq_zero_or_pos (P.cellsOf e) with h0 | h0
             · rw [h0] at hj; simp at hj
             · exact h0
           have hi : j / P.cellsOf e < k := (Nat.div_lt_iff_lt_mul hpos).2 hj
           have hr : j % P.cellsOf e < P.cellsOf e := Nat.mod_lt _ hpos
           have := zvx (sz := P.cellsOf e) (css := css) (fun c hc => by
             simp only [css, List.mem_map, List.mem_range] at hc
             obtain ⟨i, hi, rfl⟩ := hc
             exact hparts i hi) (show css[j / P.cellsOf e]? = some _ from by simp [css, hi]; rfl) hr
           rw [Nat.div_add_mod'] at this
           rw [this, List.getElem?_take, if_pos hr, List.getElem?_drop, Nat.div_add_mod']
         have hle : (xs.map (·.1)).length = k := by simp [hlen]
         refine ⟨by simp only [z3r]; rw [h5, hle, hl, hsize], by simpa only [z3r] using h6, ?_⟩
         simp only [z3r]
         refine zfn h7 fun j hj => hfl j (by rw [h5, hle] at hj; exact hj)
       · -- a struct
         rename_i fs
         simp only [Bool.and_eq_true] at hp
         obtain ⟨hpf, htile⟩ := hp
         have hcase : cs.length = P.cellsOf t ∧ ∃ xs, fs.toList.mapM (fun f => DataW.trod enc P w 0 spare held fuel f.type ((cs.drop f.offset).take (P.cellsOf f.type))) = some xs ∧ d = .agg (xs.map (·.1)) := by
           have h' : (if cs.length = P.cellsOf t then (fs.toList.mapM fun f => DataW.trod enc P w 0 spare held fuel f.type ((cs.drop f.offset).take (P.cellsOf f.type))).map fun xs => (.agg (xs.map (·.1)), xs.flatMap (·.2)) else none) = some (d, ps) := by
             simpa only [DataW.trod, hu] using h
           split at h' <;> first | (cases h'; done) | skip
           rename_i hl
           rw [Option.map_eq_some_iff] at h'
           obtain ⟨xs, h1, h2⟩ := h'
           cases h2
           exact ⟨hl, xs, h1, rfl⟩
         obtain ⟨hl, xs, hxs, rfl⟩ := hcase
         refine ⟨?_, .inr (.inr (.inr (.inr hl)))⟩
         -- field by field
         have key : ∀ (gs : List Field) (off : Nat) (ys : List (DataW H × List MemPlace)), (∀ f, f ∈ gs → z7n P n f.type = true) → ze7 P gs off (P.cellsOf t) = true →
             gs.mapM (fun f => DataW.trod enc P w 0 spare held fuel f.type ((cs.drop f.offset).take (P.cellsOf f.type))) = some ys →
             off + (z2x (ys.map (·.1))).length = P.cellsOf t ∧ Leafs (z2x (ys.map (·.1))) ∧ VRs w c (z2x (ys.map (·.1))) (fun i => cs[off + i]?) := by
           intro gs
           induction gs with
           | nil =>
             intro off ys _ ht hm'
             simp at hm'; subst hm'
             simp only [ze7, beq_iff_eq] at ht
             exact ⟨by simpa [z2x] using ht, fun q hq => by simp [z2x] at hq, by simp only [List.map_nil, z2x, VRs]⟩
           | cons f gs ihg =>
             intro off ys hpl ht hm'
             simp only [ze7, Bool.and_eq_true, beq_iff_eq] at ht
             obtain ⟨ho, ht⟩ := ht
             rw [List.mapM_cons] at hm'
             cases hf : DataW.trod enc P w 0 spare held fuel f.type ((cs.drop f.offset).take (P.cellsOf f.type)) with
             | none => rw [hf] at hm'; cases hm'
             | some x =>
               rw [hf] at hm'
               cases hg : gs.mapM (fun f => DataW.trod enc P w 0 spare held fuel f.type ((cs.drop f.offset).take (P.cellsOf f.type))) with
               | none => rw [hg] at hm'; cases hm'
               | some zs =>
                 rw [hg] at hm'
                 simp at hm'
                 subst hm'
                 obtain ⟨⟨h1, h2, h3⟩, _⟩ := ih n f.type _ x.1 x.2 (hpl f (by simp)) hf
                 obtain ⟨h4, h5, h6⟩ := ihg (off + P.cellsOf f.type) zs (fun g hg => hpl g (by simp [hg])) ht hg
                 have hlf : ((cs.drop f.offset).take (P.cellsOf f.type)).length = P.cellsOf f.type := by
                   simp; omega
                 rw [hlf] at h1
                 refine ⟨by simp only [List.map_cons, z2x, List.length_append]; omega, fun q hq => ?_, ?_⟩
                 · simp only [List.map_cons, z2x, List.mem_append] at hq
                   exact hq.elim (h2 q) (h5 q)
                 · simp only [List.map_cons, z2x]
                   refine zrh (zfn h3 fun i hi => ?_) (zfn h6 fun i hi => ?_)
                   · rw [List.getElem?_take, if_pos (by omega), List.getElem?_drop, ho]
                   · rw [h1, Nat.add_assoc]
         obtain ⟨h4, h5, h6⟩ := key fs.toList 0 xs (fun f hf => List.all_eq_true.1 hpf f hf) htile hxs
         refine ⟨by simp only [z3r]; omega, by simpa only [z3r] using h5, ?_⟩
         simp only [z3r]
         exact zfn h6 fun i hi => by rw [Nat.zero_add]
end Go.Ab
namespace Go.Ab
open Go.RowKit (Below)
open Go.ChangeShapes Go.WideShapes
def Fits {H : Type} (P : Program) : Nat → TypeId → DataW H → Prop
 | 0, _, _ => False
 | n + 1, t, d =>
   match P.underlying t with
   | some .bool => ∃ b, d = .lit (.bool b)
   | some (.int k) => ∃ x, d = .lit (.int k x) ∧ (Lit.int k x).wf = true
   | some .string => ∃ l, d = .lit (.string l) ∧ l.length ≤ maxLen
   | some (.slice e) => d = .nil ∨ ∃ es sp, d = .slice es sp ∧ es.length ≤ maxLen ∧ ∀ x, x ∈ es → Fits P n e x
   | some (.array k e) => ∃ xs, d = .agg xs ∧ xs.length = k ∧ ∀ x, x ∈ xs → Fits P n e x
   | some (.struct fs) => ∃ xs, d = .agg xs ∧ xs.length = fs.size ∧ ∀ (i : Nat) f x, fs[i]? = some f → xs[i]? = some x → Fits P n f.type x
   | _ => False
theorem z1md {H : Type} {enc : TypeId × Value → H} {P : Program} {w : World} {spare : Nat → Bool} {held : Bool} :
   ∀ (fuel n : Nat) (t : TypeId) (cs : List Value) (d : DataW H) (ps : List MemPlace), z7n P n t = true → DataW.trod enc P w 0 spare held fuel t cs = some (d, ps) → Fits P n t d := by
 intro fuel
 induction fuel with
 | zero => intro n t cs d ps _ h; simp [DataW.trod] at h
 | succ fuel ih =>
   intro n t cs d ps hp h
   cases n with
   | zero => simp [z7n] at hp
   | succ n =>
     simp only [z7n] at hp
     simp only [Fits]
     cases hu : P.underlying t with
     | none => rw [hu] at hp; cases hp
     | some u =>
       rw [hu] at hp
       cases u <;> simp only [Bool.false_eq_true] at hp ⊢
       · cases cs with
         | nil => simp [DataW.trod, hu] at h
         | cons v r => cases r <;> cases v <;> simp [DataW.trod, hu] at h; exact ⟨_, h.1.symm⟩
       · cases cs with
         | nil => simp [DataW.trod, hu] at h
         | cons v r =>
           cases r <;> cases v <;> simp [DataW.trod, hu] at h ⊢
           obtain ⟨⟨h1, h0⟩, h2, _⟩ := h; exact ⟨_, h2.symm, h0⟩
       · cases cs with
         | nil => simp [DataW.trod, hu] at h
         | cons v r => cases r <;> cases v <;> simp [DataW.trod, hu] at h ⊢; exact ⟨_, h.2.1.symm, by simpa using h.1⟩
       · rename_i e
         cases cs with
         | nil => simp [DataW.trod, hu] at h
         | cons v r =>
           cases r with
           | cons v2 r2 => cases v <;> simp [DataW.trod, hu] at h
           | nil =>
             cases v <;> try (simp [DataW.trod, hu] at h; done)
             rename_i a len cap
             cases a with
             | none =>
               cases len <;> cases cap <;> simp [DataW.trod, hu] at h
               exact .inl h.1.symm
             | some a =>
               simp only [DataW.trod, hu] at h
               split at h <;> first | (cases h; done) | skip
               rename_i hcap
               cases hm1 : (List.range len).mapM (fun i => (w.cells? 0 (a.add (i * P.cellsOf e)) (P.cellsOf e)).bind (DataW.trod enc P w 0 spare held fuel e)) with
               | none => rw [hm1] at h; cases h
               | some elems =>
                 rw [hm1] at h
                 simp only [Option.bind_some] at h
                 rw [Option.map_eq_some_iff] at h
                 obtain ⟨rest, _, h2⟩ := h
                 cases h2
                 obtain ⟨hlen, hat⟩ := zky hm1
                 refine .inr ⟨_, _, rfl, by rw [List.length_map, hlen, List.length_range]; omega, fun x hx => ?_⟩
                 rw [List.mem_map] at hx
                 obtain ⟨y, hy, rfl⟩ := hx
                 obtain ⟨i, hi⟩ := List.mem_iff_getElem?.1 hy
                 have hil : i < len := by have := (List.getElem?_eq_some_iff.1 hi).1; simpa [hlen] using this
                 obtain ⟨z, h3, h4⟩ := hat i i (by simp [hil])
                 rw [hi] at h3; cases h3
                 rw [Option.bind_eq_some_iff] at h4
                 obtain ⟨ci, _, h5⟩ := h4
                 exact ih n e ci y.1 y.2 hp h5
       · rename_i k e
         simp only [Bool.and_eq_true, beq_iff_eq] at hp
         have h' : (if cs.length = P.cellsOf t then ((List.range k).mapM fun i => DataW.trod enc P w 0 spare held fuel e ((cs.drop (i * P.cellsOf e)).take (P.cellsOf e))).map fun xs => (.agg (xs.map (·.1)), xs.flatMap (·.2)) else none) = some (d, ps) := by
           simpa only [DataW.trod, hu] using h
         split at h' <;> first | (cases h'; done) | skip
         rw [Option.map_eq_some_iff] at h'
         obtain ⟨xs, h1, h2⟩ := h'
         cases h2
         obtain ⟨hlen, hat⟩ := zky h1
         refine ⟨_, rfl, by simpa using hlen, fun x hx => ?_⟩
         rw [List.mem_map] at hx
         obtain ⟨y, hy, rfl⟩ := hx
         obtain ⟨i, hi⟩ := List.mem_iff_getElem?.1 hy
         have hil : i < k := by have := (List.getElem?_eq_some_iff.1 hi).1; simpa [hlen] using this
         obtain ⟨z, h3, h4⟩ := hat i i (by simp [hil])
         rw [hi] at h3; cases h3
         exact ih n e _ y.1 y.2 hp.1 h4
       · rename_i fs
         simp only [Bool.and_eq_true] at hp
         have h' : (if cs.length = P.cellsOf t then (fs.toList.mapM fun f => DataW.trod enc P w 0 spare held fuel f.type ((cs.drop f.offset).take (P.cellsOf f.type))).map fun xs => (.agg (xs.map (·.1)), xs.flatMap (·.2)) else none) = some (d, ps) := by
           simpa only [DataW.trod, hu] using h
         split at h' <;> first | (cases h'; done) | skip
         rw [Option.map_eq_some_iff] at h'
         obtain ⟨xs, h1, h2⟩ := h'
         cases h2
         obtain ⟨hlen, hat⟩ := zky h1
         refine ⟨_, rfl, by simpa using hlen, fun i f x hf hx => ?_⟩
         rw [List.getElem?_map] at hx
         cases hy : xs[i]? with
         | none => rw [hy] at hx; cases hx
         | some y =>
           rw [hy] at hx; simp at hx; subst hx
           obtain ⟨z, h3, h4⟩ := hat i f (by simpa using hf)
           rw [hy] at h3; cases h3
           exact ih n f.type _ y.1 y.2 (List.all_eq_true.1 hp.1 f (by simpa using Array.mem_of_getElem? hf)) h4
def argPV {H : Type} (P : Program) (t : TypeId) (d : DataW H) : PV := bif tyAgg P t == some true then .agg (z3r d) else (z3r d).headD .dead
def cx0 : Cx := { m := [], T := [], ok := fun _ _ => True }
theorem z1pr {H : Type} {enc : TypeId × Value → H} {P : Program} {w : World} {n : Nat} {t : TypeId} {v : Value} {d : DataW H} {ps : List MemPlace} {spare : Nat → Bool} {held : Bool} {base : Nat} (hp : z7n P n t = true)
   (hv : Value.okWide P w .any base t v) (h : DataW.Trod enc P w 0 spare held t v d ps) : VR w cx0 (argPV P t d) v := by
 obtain ⟨fuel, hf⟩ := h
 obtain ⟨⟨h1, h2, h3⟩, _⟩ := z1pn (w := w) (c := cx0) rfl rfl (fun _ _ => trivial) fuel n t _ d ps hp hf
 have leafy : tyAgg P t = some false → v.cells = #[v] → VR w cx0 (argPV P t d) v := by
   intro ha hc
   rw [hc] at h1 h3
   unfold argPV
   rw [ha]
   cases hcd : z3r d with
   | nil => rw [hcd] at h1; simp at h1
   | cons p r =>
     rw [hcd] at h3
     simp only [VRs] at h3
     obtain ⟨⟨u, hu, hr⟩, _⟩ := h3
     simp at hu; subst hu
     exact hr
 cases n with
 | zero => simp [z7n] at hp
 | succ n =>
   simp only [z7n] at hp
   cases hu : P.underlying t with
   | none => rw [hu] at hp; cases hp
   | some u =>
     rw [hu] at hp
     cases u <;> simp only [Bool.false_eq_true] at hp
     · obtain ⟨b, rfl⟩ := okWide_bool hu hv
       exact leafy (by simp [tyAgg, hu]) rfl
     · obtain ⟨x, rfl⟩ := okWide_int hu hv
       exact leafy (by simp [tyAgg, hu]) rfl
     · obtain ⟨x, rfl⟩ := okWide_string hu hv
       exact leafy (by simp [tyAgg, hu]) rfl
     · obtain ⟨a, l, c, rfl⟩ := okWide_slice hu hv
       exact leafy (by simp [tyAgg, hu]) rfl
     · have ha : tyAgg P t = some true := by simp [tyAgg, hu]
       simp only [Value.okWide, hu] at hv
       obtain ⟨cs, rfl, _⟩ := hv
       unfold argPV; rw [ha]
       simp only [BEq.rfl, cond_true, VR]
       exact ⟨cs, rfl, by simpa [Value.cells] using h1.symm, h2, by simpa [Value.cells] using h3⟩
     · have ha : tyAgg P t = some true := by simp [tyAgg, hu]
       simp only [Value.okWide, hu] at hv
       obtain ⟨cs, rfl, _⟩ := hv
       unfold argPV; rw [ha]
       simp only [BEq.rfl, cond_true, VR]
       exact ⟨cs, rfl, by simpa [Value.cells] using h1.symm, h2, by simpa [Value.cells] using h3⟩
theorem z1ff {H : Type} {enc : TypeId × Value → H} {P : Program} {w : World} {n : Nat} {spare : Nat → Bool} {held : Bool} {base : Nat} : ∀ {ts : List TypeId} {vs : List Value} {ds : List (DataW H)} {ps : List MemPlace},
   DataW.TrodAll enc P w 0 spare held ts vs ds ps → (∀ t, t ∈ ts → z7n P n t = true) → (∀ (j : Nat) t v, ts[j]? = some t → vs[j]? = some v → Value.okWide P w .any base t v) →
   vs.length = (List.zipWith (argPV P) ts ds).length ∧ VRs w cx0 (List.zipWith (argPV P) ts ds) (fun i => vs[i]?)
 | [], vs, ds, ps, h, _, _ => by
   cases vs <;> cases ds <;> simp [DataW.TrodAll] at h
   exact ⟨rfl, by simp only [List.zipWith_nil_left, VRs]⟩
 | t :: ts, vs, ds, ps, h, hp, hv => by
   obtain ⟨v, vs', d, ds', p, q, rfl, rfl, rfl, h1, h2⟩ := trodAll_cons h
   obtain ⟨h3, h4⟩ := z1ff h2 (fun t ht => hp t (by simp [ht])) (fun j t v ht hv' => hv (j + 1) t v (by simpa using ht) (by simpa using hv'))
   refine ⟨by simp only [List.zipWith_cons_cons, List.length_cons, h3], ?_⟩
   simp only [List.zipWith_cons_cons, VRs]
   exact ⟨⟨v, rfl, z1pr (hp t (by simp)) (hv 0 t v rfl rfl) h1⟩, by simpa using h4⟩
theorem z1hb {H : Type} {enc : TypeId × Value → H} {P : Program} {w : World} {n : Nat} {spare : Nat → Bool} {held : Bool} : ∀ {ts : List TypeId} {vs : List Value} {ds : List (DataW H)} {ps : List MemPlace},
   DataW.TrodAll enc P w 0 spare held ts vs ds ps → (∀ t, t ∈ ts → z7n P n t = true) → ∀ (j : Nat) t d, ts[j]? = some t → ds[j]? = some d → Fits P n t d
 | [], vs, ds, ps, h, _, j, t, d, ht, _ => by simp at ht
 | t :: ts, vs, ds, ps, h, hp, j, t', d', ht, hd => by
   obtain ⟨v, vs', d, ds', p, q, rfl, rfl, rfl, h1, h2⟩ := trodAll_cons h
   cases j with
   | zero =>
     simp at ht hd; subst ht; subst hd
     obtain ⟨fuel, hf⟩ := h1
     exact z1md fuel n t _ d p (hp t (by simp)) hf
   | succ j => exact z1hb h2 (fun t ht => hp t (by simp [ht])) j t' d' (by simpa using ht) (by simpa using hd)
theorem z1od (w : World) : Good w cx0 [] (List.replicate 0 false) where
 len := rfl
 inj := fun i j k h => by simp [cx0] at h
 obj := fun b o h => by simp at h
 tl := rfl
 tal := fun i h => by simp at h
 tdead := fun i h => by simp at h
 tok := fun i k j h => by simp [cx0] at h
 tinj := fun i i' k j j' h => by simp [cx0] at h
 okn := fun _ _ _ => trivial
 okm := fun _ _ _ _ _ => trivial
 okt := fun _ _ _ _ _ => trivial
 oko := fun _ _ _ _ _ => trivial
theorem z1lx {H : Type} {enc : TypeId × Value → H} {P : Program} {f : FuncId} {W : World} {n : Nat} {spare : Nat → Bool} {held : Bool} {base : Nat} {ts : List TypeId} {args : Array Value} {ds : List (DataW H)}
   {ps : List MemPlace} (hA : DataW.TrodAll enc P W 0 spare held ts args.toList ds ps) (hp : ∀ t, t ∈ ts → z7n P n t = true)
   (hv : ∀ (j : Nat) t v, ts[j]? = some t → args[j]? = some v → Value.okWide P W .any base t v)
   (hc : ACalls P f (List.zipWith (argPV P) ts ds) [] 0 (fun p _ _ => p = .val (.bool true))) :
   Calls P f args W fun e W' => e = .returned (.bool true) ∧ Below W.heap.size W W' := by
 obtain ⟨h1, h2⟩ := z1ff hA hp (fun j t v ht hv' => hv j t v ht (by simpa using hv'))
 refine (hc W cx0 args (z1od W) rfl (by simpa using h1) (by simpa using h2)).mono ?_
 rintro e W' ⟨v, p, H', ts', c', rfl, rfl, _, hvr, x⟩
 rw [zc9] at hvr
 refine ⟨by rw [hvr.1], x.os, x.tape, x.output, x.size, fun k hk => x.blocks k hk (by simp [cx0]) (fun i j h => by simp [cx0] at h)⟩
theorem z1bh {H : Type} {enc : TypeId × Value → H} {P : Program} {W W' : World} (hl : laidOutB P = true) (bel : Below W.heap.size W W') : ∀ {ts : List TypeId} {vs : List Value} {ds : List (DataW H)} {ps : List MemPlace},
   DataW.TrodAll enc P W 0 (fun _ => true) true ts vs ds ps → (∀ t, t ∈ ts → P.readableRec t = true ∧ t < P.types.size) →
   DataW.TrodAll enc P W' 0 (fun b => decide (b < W.heap.size)) true ts vs ds ps
 | [], vs, ds, ps, h, _ => by
   cases vs <;> cases ds <;> simp [DataW.TrodAll] at h
   subst h; rfl
 | t :: ts, vs, ds, ps, h, hp => by
   obtain ⟨v, vs', d, ds', p, q, rfl, rfl, rfl, h1, h2⟩ := trodAll_cons h
   have hlt : ∀ x ∈ p, x.block < W.heap.size := by obtain ⟨m, hm⟩ := h1; exact DataW.trod_lt m _ _ _ hm
   exact trodAll_cons_mk (Below.trod hl (hp t (by simp)).1 (hp t (by simp)).2 h1 bel hlt) (z1bh hl bel h2 (fun t ht => hp t (by simp [ht])))
end Go.Ab
namespace Go.Ab
end Go.Ab
set_option linter.unusedSimpArgs false
set_option linter.unusedVariables false
namespace Go.Ab
def eqTy (P : Program) : Nat → TypeId → Bool
 | 0, _ => false
 | n + 1, t =>
   match P.underlying t with
   | some .bool | some (.int _) | some .string => true
   | some (.array k e) => eqTy P n e && P.cellsOf t == k * P.cellsOf e
   | some (.struct fs) => fs.toList.all (fun f => f.name != "_" && eqTy P n f.type) && ze7 P fs.toList 0 (P.cellsOf t) && !P.stoodInHeld t
   | _ => false
def z6h (P : Program) : Nat → TypeId → List Value → Prop
 | 0, _, _ => False
 | n + 1, t, cs =>
   match P.underlying t with
   | some .bool => ∃ b, cs = [.bool b]
   | some (.int k) => ∃ x, cs = [.int k x]
   | some .string => ∃ s, cs = [.string s]
   | some (.array k e) => cs.length = P.cellsOf t ∧ ∀ i, i < k → z6h P n e ((cs.drop (i * P.cellsOf e)).take (P.cellsOf e))
   | some (.struct fs) => cs.length = P.cellsOf t ∧ ∀ f, f ∈ fs.toList → z6h P n f.type ((cs.drop f.offset).take (P.cellsOf f.type))
   | _ => False
theorem z1lf {α : Type} {xs ys : List α} {n c : Nat} (hx : xs.length = n * c) (hy : ys.length = n * c) (h : ∀ i, i < n → (xs.drop (i * c)).take c = (ys.drop (i * c)).take c) : xs = ys := by
 refine List.ext_getElem? fun j => ?_
 by_cases hj : j < n * c
 · have hc : 0 < c := Nat.pos_of_ne_zero fun e => by subst e; simp at hj
   have hi : j / c < n := by rw [Nat.div_lt_iff_lt_mul hc]; exact hj
   have := congrArg (fun l => l[j % c]?) (h (j / c) hi)
   simp only [List.getElem?_take_of_lt (Nat.mod_lt j hc), List.getElem?_drop] at this
   have e : j / c * c + j % c = j := Nat.div_add_mod' j c
   rw [e] at this; exact this
 · rw [List.getElem?_eq_none (by omega), List.getElem?_eq_none (by omega)]
theorem z1e1 {α : Type} {P : Program} {xs ys : List α} : ∀ {fs : List Field} {off n : Nat}, ze7 P fs off n = true → (∀ f, f ∈ fs → (xs.drop f.offset).take (P.cellsOf f.type) = (ys.drop f.offset).take (P.cellsOf f.type)) →
   ∀ j, off ≤ j → j < n → xs[j]? = ys[j]?
 | [], off, n, ht, _, j, h1, h2 => by simp [ze7] at ht; omega
 | f :: fs, off, n, ht, h, j, h1, h2 => by
   simp only [ze7, Bool.and_eq_true, beq_iff_eq] at ht
   obtain ⟨rfl, ht⟩ := ht
   by_cases hj : j < f.offset + P.cellsOf f.type
   · have := congrArg (fun l => l[j - f.offset]?) (h f (by simp))
     simp only [List.getElem?_take_of_lt (show j - f.offset < P.cellsOf f.type by omega), List.getElem?_drop] at this
     rw [show f.offset + (j - f.offset) = j by omega] at this; exact this
   · exact z1e1 ht (fun g hg => h g (by simp [hg])) j (by omega) h2
section
variable {P : Program} (w : World)
theorem zuf {e : TypeId} {n off : Nat} {xs : Array Value} (ha : z6h P n e ((xs.toList.drop off).take (P.cellsOf e))) :
   ∃ a, (part e xs off).run P w = .ok a w ∧ a.formed P e = true ∧ a.cells.toList = (xs.toList.drop off).take (P.cellsOf e) := by
 cases n with
 | zero => cases ha
 | succ n =>
   simp only [z6h] at ha
   cases hu : P.underlying e with
   | none => rw [hu] at ha; cases ha
   | some kd =>
     rw [hu] at ha
     have agg : (match kd with | .array _ _ | .struct _ => true | _ => false) = true → ((xs.toList.drop off).take (P.cellsOf e)).length = P.cellsOf e →
         ∃ a, (part e xs off).run P w = .ok a w ∧ a.formed P e = true ∧ a.cells.toList = (xs.toList.drop off).take (P.cellsOf e) := fun hk hlen => by
       obtain ⟨i, hi⟩ := info_of_underlying hu
       have hl : (xs.extract off (off + P.cellsOf e)).toList = (xs.toList.drop off).take (P.cellsOf e) := by
         rw [Array.toList_extract]; simp [List.extract]
       have hs : (xs.extract off (off + P.cellsOf e)).size = P.cellsOf e := by rw [← Array.length_toList, hl, hlen]
       refine ⟨.agg (xs.extract off (off + P.cellsOf e)), ?_, ?_, hl⟩
       · cases kd <;> simp at hk <;> simp [part, isAgg, Go.run_underlying hu, Go.run_sizeOf w hi]
       · cases kd <;> simp at hk <;> simp [Value.formed, hu, hs]
     cases kd <;> simp only at ha
     · obtain ⟨b, hb⟩ := ha
       exact ⟨Value.bool b, by simp [part, isAgg, Go.run_underlying hu, getElem?_of_chunk hb], by simp [Value.formed, hu], by rw [hb]; rfl⟩
     · rename_i q
       obtain ⟨b, hb⟩ := ha
       exact ⟨Value.int q b, by simp [part, isAgg, Go.run_underlying hu, getElem?_of_chunk hb], by simp [Value.formed, hu], by rw [hb]; rfl⟩
     · obtain ⟨b, hb⟩ := ha
       exact ⟨Value.string b, by simp [part, isAgg, Go.run_underlying hu, getElem?_of_chunk hb], by simp [Value.formed, hu], by rw [hb]; rfl⟩
     · exact agg rfl ha.1
     · exact agg rfl ha.1
def EqS (P : Program) (dd n : Nat) (e : TypeId) : Prop :=
 ∀ (w : World) (a b : Value), a.formed P e = true → b.formed P e = true → z6h P n e a.cells.toList → z6h P n e b.cells.toList →
   ∃ r : Bool, (Op.equalIn dd e a b).run P w = .ok r w ∧ (r = true ↔ a.cells.toList = b.cells.toList)
theorem zub {e : TypeId} {dd n off : Nat} (IH : EqS P dd n e) {xs ys : Array Value}
   (ha : z6h P n e ((xs.toList.drop off).take (P.cellsOf e))) (hb : z6h P n e ((ys.toList.drop off).take (P.cellsOf e))) :
   ∃ a b r, (part e xs off).run P w = .ok a w ∧ (part e ys off).run P w = .ok b w ∧ (Op.equalIn dd e a b).run P w = .ok r w ∧
     (r = true ↔ (xs.toList.drop off).take (P.cellsOf e) = (ys.toList.drop off).take (P.cellsOf e)) := by
 obtain ⟨a, p1, f1, c1⟩ := zuf w ha
 obtain ⟨b, p2, f2, c2⟩ := zuf w hb
 obtain ⟨r, hr, hiff⟩ := IH w a b f1 f2 (by rw [c1]; exact ha) (by rw [c2]; exact hb)
 exact ⟨a, b, r, p1, p2, hr, by rw [hiff, c1, c2]⟩
theorem zo0 (dd n : Nat) (xs ys : Array Value) : ∀ (fs : List Field), (∀ f ∈ fs, f.name ≠ "_" ∧ EqS P dd n f.type) →
   (∀ f ∈ fs, z6h P n f.type ((xs.toList.drop f.offset).take (P.cellsOf f.type))) → (∀ f ∈ fs, z6h P n f.type ((ys.toList.drop f.offset).take (P.cellsOf f.type))) →
   ∃ r : Bool, (Op.eqFields dd xs ys fs).run P w = .ok r w ∧ (r = true ↔ ∀ f ∈ fs, (xs.toList.drop f.offset).take (P.cellsOf f.type) = (ys.toList.drop f.offset).take (P.cellsOf f.type))
 | [], _, _, _ => ⟨true, by simp [Op.eqFields], by simp⟩
 | f :: fs, hall, ha, hb => by
   obtain ⟨hn, hp⟩ := hall f (by simp)
   obtain ⟨a, b, r, p1, p2, p3, hiff⟩ := zub w hp (ha f (by simp)) (hb f (by simp))
   obtain ⟨r', hr', hiff'⟩ := zo0 dd n xs ys fs (fun g hg => hall g (by simp [hg])) (fun g hg => ha g (by simp [hg])) (fun g hg => hb g (by simp [hg]))
   simp only [Op.eqFields, hn, ne_eq, not_false_eq_true, if_true, Sem.run_bind, p1, p2, p3, Result.andThen_ok]
   cases r
   · exact ⟨false, by simp, ⟨fun h => (by cases h), fun h => hiff.2 (h f (by simp))⟩⟩
   · refine ⟨r', by simpa using hr', ?_⟩
     rw [hiff']
     exact ⟨fun h g hg => (List.mem_cons.1 hg).elim (fun e => by subst e; exact hiff.1 rfl) (h g), fun h g hg => h g (by simp [hg])⟩
theorem zpq (dd n : Nat) {e : TypeId} (IH : EqS P dd n e) (xs ys : Array Value) : ∀ (is : List Nat),
   (∀ i ∈ is, z6h P n e ((xs.toList.drop (i * P.cellsOf e)).take (P.cellsOf e))) → (∀ i ∈ is, z6h P n e ((ys.toList.drop (i * P.cellsOf e)).take (P.cellsOf e))) →
   ∃ r : Bool, (Op.eqItems dd e (P.cellsOf e) xs ys is).run P w = .ok r w ∧ (r = true ↔ ∀ i ∈ is, (xs.toList.drop (i * P.cellsOf e)).take (P.cellsOf e) = (ys.toList.drop (i * P.cellsOf e)).take (P.cellsOf e))
 | [], _, _ => ⟨true, by simp [Op.eqItems], by simp⟩
 | i :: is, ha, hb => by
   obtain ⟨a, b, r, p1, p2, p3, hiff⟩ := zub w IH (ha i (by simp)) (hb i (by simp))
   obtain ⟨r', hr', hiff'⟩ := zpq dd n IH xs ys is (fun g hg => ha g (by simp [hg])) (fun g hg => hb g (by simp [hg]))
   simp only [Op.eqItems, Sem.run_bind, p1, p2, p3, Result.andThen_ok]
   cases r
   · exact ⟨false, by simp, ⟨fun h => (by cases h), fun h => hiff.2 (h i (by simp))⟩⟩
   · refine ⟨r', by simpa using hr', ?_⟩
     rw [hiff']
     exact ⟨fun h g hg => (List.mem_cons.1 hg).elim (fun e => by subst e; exact hiff.1 rfl) (h g), fun h g hg => h g (by simp [hg])⟩
end
theorem z12o {P : Program} (d : Nat) : ∀ (n : Nat) (t : TypeId), eqTy P n t = true → EqS P (d + n) n t
 | 0, _, h => by cases h
 | n + 1, t, hk => by
   intro w x y fx fy hx hy
   simp only [eqTy] at hk
   simp only [z6h] at hx hy
   cases hu : P.underlying t with
   | none => rw [hu] at hk; cases hk
   | some kd =>
     rw [hu] at hk hx hy
     cases kd <;> simp only [Bool.false_eq_true] at hk hx hy
     · obtain ⟨a, ha⟩ := hx
       obtain ⟨b, hb⟩ := hy
       have hxv : x = .bool a := by cases x <;> simp_all [Value.cells, Value.formed]
       have hyv : y = .bool b := by cases y <;> simp_all [Value.cells, Value.formed]
       subst hxv; subst hyv
       exact ⟨a == b, run_equalIn_bool w (d + n) t a b hu, by simp [Value.cells]⟩
     · rename_i q
       obtain ⟨a, ha⟩ := hx
       obtain ⟨b, hb⟩ := hy
       have hxv : x = .int q a := by cases x <;> simp_all [Value.cells, Value.formed]
       have hyv : y = .int q b := by cases y <;> simp_all [Value.cells, Value.formed]
       subst hxv; subst hyv
       exact ⟨a == b, run_equalIn_int w (d + n) t q q a b hu, by simp [Value.cells]⟩
     · obtain ⟨a, ha⟩ := hx
       obtain ⟨b, hb⟩ := hy
       have hxv : x = .string a := by cases x <;> simp_all [Value.cells, Value.formed]
       have hyv : y = .string b := by cases y <;> simp_all [Value.cells, Value.formed]
       subst hxv; subst hyv
       exact ⟨a.toList == b.toList, run_equalIn_string w (d + n) t a b hu, by
         simp [Value.cells, ByteArray.toList_eq]
         exact ⟨fun h => by cases a; cases b; simpa using h, fun h => by rw [h]⟩⟩
     · rename_i k e
       simp only [Bool.and_eq_true, beq_iff_eq] at hk
       cases x <;> simp only [Value.formed, hu, Bool.false_eq_true] at fx
       cases y <;> simp only [Value.formed, hu, Bool.false_eq_true] at fy
       rename_i xs ys
       have hpe : ∃ i, P.info? e = some i := by
         cases n with
         | zero => simp [eqTy] at hk
         | succ m =>
           have h1 := hk.1
           simp only [eqTy] at h1
           cases hue : P.underlying e with
           | none => simp [hue] at h1
           | some _ => exact info_of_underlying hue
       obtain ⟨i, hi⟩ := hpe
       simp only [Value.cells] at hx hy ⊢
       obtain ⟨r, hr, hiff⟩ := zpq w (d + n) n (z12o d n e hk.1) xs ys (List.range k) (fun i hi => hx.2 i (by simpa using hi)) (fun i hi => hy.2 i (by simpa using hi))
       refine ⟨r, by rw [show d + (n + 1) = (d + n) + 1 from rfl, run_equalIn_array w (d + n) xs ys hu hi]; exact hr, ?_⟩
       rw [hiff]
       exact ⟨fun h => z1lf (by rw [hx.1, hk.2]) (by rw [hy.1, hk.2]) fun i hi => h i (by simpa using hi), fun h i _ => by rw [h]⟩
     · rename_i fs
       simp only [Bool.and_eq_true, Bool.not_eq_true'] at hk
       cases x <;> simp only [Value.formed, hu, Bool.false_eq_true] at fx
       cases y <;> simp only [Value.formed, hu, Bool.false_eq_true] at fy
       rename_i xs ys
       simp only [Value.cells] at hx hy ⊢
       have hfs : P.fieldsOf t = fs := by simp [Program.fieldsOf, hu]
       obtain ⟨r, hr, hiff⟩ := zo0 w (d + n) n xs ys fs.toList (fun f hf => by
         have := List.all_eq_true.1 hk.1.1 f hf
         simp only [Bool.and_eq_true, bne_iff_ne, ne_eq] at this
         exact ⟨this.1, z12o d n f.type this.2⟩) hx.2 hy.2
       refine ⟨r, by rw [show d + (n + 1) = (d + n) + 1 from rfl, run_equalIn_struct w (d + n) t xs ys (by rw [hfs]; exact hu) hk.2, hfs]; exact hr, ?_⟩
       rw [hiff]
       refine ⟨fun h => List.ext_getElem? fun j => ?_, fun h f _ => by rw [h]⟩
       by_cases hj : j < P.cellsOf t
       · exact z1e1 hk.1.2 h j (by omega) hj
       · rw [List.getElem?_eq_none (by rw [hx.1]; omega), List.getElem?_eq_none (by rw [hy.1]; omega)]
theorem z1gx {w : World} {c : Cx} : ∀ {vs : List Value} {f : Nat → Option Value}, VRs w c (vs.map PV.val) f → ∀ i, i < vs.length → f i = vs[i]?
 | [], f, h, i, hi => by simp at hi
 | v :: vs, f, h, i, hi => by
   simp only [List.map_cons, VRs] at h
   obtain ⟨⟨u, hu, hr⟩, h2⟩ := h
   rw [zc9] at hr
   cases i with
   | zero => rw [hu, hr.1]; rfl
   | succ i => simpa using z1gx h2 i (by simpa using hi)
theorem zy9 {w : World} {c : Cx} {vs : List Value} {v : Value} (h : VR w c (.agg (vs.map PV.val)) v) : v = .agg vs.toArray := by
 simp only [VR] at h
 obtain ⟨cs, rfl, hl, _, hv⟩ := h
 congr 1
 rw [← Array.toList_inj]
 refine List.ext_getElem? fun i => ?_
 have hl' : cs.toList.length = vs.length := by simpa using hl
 by_cases hi : i < vs.length
 · have := z1gx hv i hi
   simpa using this
 · rw [List.getElem?_eq_none (by rw [hl']; omega), List.getElem?_eq_none (by simp; omega)]
theorem z1bx {P : Program} {w : World} {n : Nat} {t : TypeId} {vs us : List Value} {r : Bool} (hn : n ≤ 10000) (ht : eqTy P n t = true) (ha : tyAgg P t = some true) (h1 : z6h P n t vs) (h2 : z6h P n t us) (hr : r = true ↔ vs = us) :
   (Op.equalIn 10000 t (.agg vs.toArray) (.agg us.toArray)).run P w = .ok r w := by
 have form : ∀ ws : List Value, z6h P n t ws → (Value.agg ws.toArray).formed P t = true := fun ws hs => by
   cases n with
   | zero => cases hs
   | succ n =>
     simp only [z6h] at hs
     unfold tyAgg at ha
     cases hu : P.underlying t with
     | none => rw [hu] at ha; cases ha
     | some kd =>
       rw [hu] at ha hs
       cases kd <;> simp at ha <;> simp only at hs <;> simp [Value.formed, hu, hs.1]
 obtain ⟨r', hr', hiff⟩ := z12o (P := P) (10000 - n) n t ht w (.agg vs.toArray) (.agg us.toArray) (form _ h1) (form _ h2) (by simpa [Value.cells] using h1) (by simpa [Value.cells] using h2)
 rw [show 10000 - n + n = 10000 by omega] at hr'
 have : r' = r := by
   rw [Bool.eq_iff_iff, hiff, hr]; simp [Value.cells]
 rw [← this]; exact hr'
theorem z1pm {P : Program} {o : Oper} {σ : AS} {n : Nat} {t yt : TypeId} {x y : Operand} {vs us : List Value} {r : Bool} (ho : o.op = .binOp .eql t x y yt) (hg : P.eqGuardType P.depth t = false) (hn : n ≤ 10000) (ht : eqTy P n t = true)
   (ha : tyAgg P t = some true) (hx : σ.eval x = .agg (vs.map PV.val)) (hy : σ.eval y = .agg (us.map PV.val)) (h1 : z6h P n t vs) (h2 : z6h P n t us) (hr : r = true ↔ vs = us) : QStep P o σ (.val (.bool r)) :=
 q_run fun w c a hR => ⟨_, by
   have e1 : a.eval x = .agg vs.toArray := zy9 (hx ▸ hR.2.eval x)
   have e2 : a.eval y = .agg us.toArray := zy9 (hy ▸ hR.2.eval y)
   simp only [execOp, ho, e1, e2, Sem.run_bind, run_eqGuard_agg w .eql t x y vs.toArray us.toArray hg, Result.andThen_ok]
   rw [run_eql_struct, z1bx hn ht ha h1 h2 hr]; rfl, zc9.2 ⟨rfl, rfl⟩⟩
theorem z1pz {P : Program} {o : Oper} {σ : AS} {n : Nat} {t yt : TypeId} {x y : Operand} {vs us : List Value} {r : Bool} (ho : o.op = .binOp .neq t x y yt) (hg : P.eqGuardType P.depth t = false) (hn : n ≤ 10000) (ht : eqTy P n t = true)
   (ha : tyAgg P t = some true) (hx : σ.eval x = .agg (vs.map PV.val)) (hy : σ.eval y = .agg (us.map PV.val)) (h1 : z6h P n t vs) (h2 : z6h P n t us) (hr : r = true ↔ vs = us) : QStep P o σ (.val (.bool (!r))) :=
 q_run fun w c a hR => ⟨_, by
   have e1 : a.eval x = .agg vs.toArray := zy9 (hx ▸ hR.2.eval x)
   have e2 : a.eval y = .agg us.toArray := zy9 (hy ▸ hR.2.eval y)
   simp only [execOp, ho, e1, e2, Sem.run_bind, run_eqGuard_agg w .neq t x y vs.toArray us.toArray hg, Result.andThen_ok]
   rw [run_neq_struct, z1bx hn ht ha h1 h2 hr]; rfl, zc9.2 ⟨rfl, rfl⟩⟩
end Go.Ab