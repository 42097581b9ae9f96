import Derived.Test.YtpfjfldagldgnaaAb15to22
set_option linter.unusedSimpArgs false
set_option linter.unusedVariables false
namespace Go.Ab
theorem z1bd {c c' : Cx} {n pn : Nat} {ρ : List Nat} (hinj : ∀ i j b : Nat, ρ[i]? = some b → ρ[j]? = some b → i = j) {j b : Nat} (hb : b < n) (hj : ρ[j]? = some b) (hlt : j < pn) (hl : j < c'.m.length) :
   (z1j c c' n pn ρ).m[b]? = c'.m[j]? := by
 rw [zff hb]
 cases hp : posOf ρ b with
 | none => exact absurd hj (zvh hp j)
 | some i =>
   have := hinj i j b (zb2 hp) hj
   subst this
   simp only [if_pos hlt, List.getElem?_eq_getElem hl, Option.join_some]
def z11a (pn : Nat) (ρ : List Nat) (b : Nat) : Option Nat :=
 match posOf ρ b with
 | some j => if j < pn then some b else none
 | none => some b
theorem z1h4 {pn : Nat} {ρ : List Nat} {b j : Nat} (h : z11a pn ρ b = some j) : j = b ∧ ((∃ i, posOf ρ b = some i ∧ i < pn) ∨ posOf ρ b = none) := by
 unfold z11a at h
 cases hp : posOf ρ b with
 | none => rw [hp] at h; cases h; exact ⟨rfl, .inr rfl⟩
 | some i =>
   rw [hp] at h
   simp only at h
   split at h
   · rename_i hi; cases h; exact ⟨rfl, .inl ⟨i, rfl, hi⟩⟩
   · cases h
theorem z1j6 {w w' : World} {c c' : Cx} {H H' : List AObj} (g : Good w c H []) {pn : Nat} {ρ : List Nat} (hh : Hand c H.length pn ρ) (g' : Good w' c' H' []) (x : ExtP pn w (z2v w c pn ρ) w' c') (hpn : pn ≤ H'.length)
   (xx : ExtP c.pn w c w' (z1j c c' H.length pn ρ)) :
   Mv (z11a pn ρ) w c w' (z1j c c' H.length pn ρ) where
 noT := noT g
 id := fun b j0 k hf hk => by
   obtain ⟨e0, hl⟩ := z1h4 hf
   rw [e0]
   have hbl : b < H.length := by rw [← g.len]; exact (List.getElem?_eq_some_iff.1 hk).1
   show (z1j c c' H.length pn ρ).m[b]? = some (some k)
   cases hp : posOf ρ b with
   | none => rw [zff hbl, hp]; simp only [hk, Option.join_some]
   | some j =>
     have hj := zb2 hp
     have hlt : j < pn := by
       rcases hl with ⟨i, h1, h2⟩ | h1
       · rw [hp] at h1; cases h1; exact h2
       · rw [hp] at h1; cases h1
     rw [z1bd hh.inj hbl hj hlt (by rw [g'.len]; omega)]
     exact x.pin j k hlt (zev hj hk)
 foot := fun a n h => by
   rcases h with h | ⟨h1, h2, h3, h4, h5⟩
   · exact .inl h
   · refine .inr ⟨h1, Nat.lt_of_lt_of_le h2 x.size, fun hm => ?_, h4, h5⟩
     rcases xx.new _ hm with h | h
     · exact h3 h
     · omega
 cell := fun a n h i v hi hv => by
   rcases h with h | ⟨h1, h2, h3, h4, h5⟩
   · omega
   · rw [z6h (a := ⟨a.block, a.off + i, none⟩) (xx.blocks a.block h2 h3)]; exact hv
 room := xx.room
theorem z1a1 {w w' : World} {c c' : Cx} {H H' : List AObj} (g : Good w c H []) {pn : Nat} {ρ : List Nat} (hh : Hand c H.length pn ρ) (g' : Good w' c' H' []) (x : ExtP pn w (z2v w c pn ρ) w' c') (hpn : pn ≤ H'.length) :
   Mv (fun j => some (zy0 H.length pn ρ j)) w' c' w' (z1j c c' H.length pn ρ) where
 noT := noT g'
 id := fun j j0 k hf hk => by
   cases hf
   have hjl : j < c'.m.length := (List.getElem?_eq_some_iff.1 hk).1
   unfold zy0
   by_cases hlt : j < pn
   · rw [if_pos hlt]
     have hr : j < ρ.length := Nat.lt_of_lt_of_le hlt hh.pnl
     have hj := List.getElem?_eq_getElem hr
     rw [hj, Option.getD_some, z1bd hh.inj (hh.lt j _ hj) hj hlt hjl]; exact hk
   · rw [if_neg hlt, z1bl (by omega), show pn + (H.length + (j - pn) - H.length) = j by omega]; exact hk
 foot := fun a n h => by
   rcases h with h | ⟨h1, h2, h3, h4, h5⟩
   · exact .inl h
   · have hok : (z2v w c pn ρ).ok a.block (a.off + n) := by rw [← x.ok]; exact h5
     have key : (∀ b : Nat, (∀ j : Nat, ρ[j]? ≠ some b) → c.m[b]? ≠ some (some a.block)) ∧ c.ok a.block (a.off + n) := by
       by_cases hlt : a.block < w.heap.size
       · rcases hok hlt with ⟨j, b, hj, hb, hk⟩ | ⟨hm, hc⟩
         · refine ⟨fun b' hb' hk' => ?_, g.oko b _ (hh.own j b hj hb) hk _⟩
           have := g.inj b b' _ hk hk'
           subst this
           exact hb' j hb
         · exact ⟨fun b' _ hk' => hm (List.mem_iff_getElem?.2 ⟨b', hk'⟩), hc⟩
       · exact ⟨fun b' _ hk' => hlt (ObjC.lt g hk'), g.okn _ _ (Nat.le_of_not_lt hlt)⟩
     refine .inr ⟨h1, h2, fun hm => ?_, fun i k hT => ?_, key.2⟩
     · obtain ⟨b, hb⟩ := List.mem_iff_getElem?.1 hm
       rcases zo7 hb with ⟨_, j, _, _, h⟩ | ⟨_, hno, h⟩ | ⟨_, h⟩
       · exact h3 (List.mem_iff_getElem?.2 ⟨_, h⟩)
       · exact key.1 b hno h
       · exact h3 (List.mem_iff_getElem?.2 ⟨_, h⟩)
     · simp only [z1j, noT g] at hT; simp at hT
 cell := fun a n _ i v _ hv => hv
 room := fun k vs e fr h => ⟨vs, fr, h, rfl⟩
theorem z14s {P : Program} {o : Oper} {f : FuncId} {fo : Operand} {xs : Array Operand} {ats : Array TypeId} {ρ : Operand → Value} {cv : Array Value} (ho : o.op = .call { callee := .value fo, args := xs, argTypes := ats })
   (hc : zfh P f = true) (hρ : ρ fo = .func (.func f) #[] cv) (w : World) : (execOp ρ o).run P w = .ok (.enter f (xs.map ρ ++ cv)) w := by
 simp only [execOp, ho, resolve, hρ, Deferred.ofValue, Sem.run_bind, Sem.run_pure, Result.andThen_ok, invoke]
 have := z17t hc (xs.map ρ ++ cv) w
 simpa using this
end Go.Ab
set_option linter.unusedSimpArgs false
set_option linter.unusedVariables false
namespace Go.Ab
theorem z1bg {α : Type} {z : List α} (hz : z ≠ []) : ∀ (n i : Nat), i < n * z.length → (List.replicate n z).flatten[i]? = z[i % z.length]?
 | 0, i, h => by omega
 | n + 1, i, h => by
   have hl : 0 < z.length := List.length_pos_iff.2 hz
   simp only [List.replicate_succ, List.flatten_cons]
   by_cases hi : i < z.length
   · rw [List.getElem?_append_left hi, Nat.mod_eq_of_lt hi]
   · rw [List.getElem?_append_right (by omega), z1bg hz n (i - z.length) (by rw [Nat.succ_mul] at h; omega), ← Nat.mod_eq_sub_mod (by omega)]
theorem zne {α : Type} (z : List α) (n : Nat) : (List.replicate n z).flatten.length = n * z.length := by simp
end Go.Ab
set_option linter.unusedSimpArgs false
set_option linter.unusedVariables false
namespace Go.Ab
def SrcN (P : Program) (σ : AS) (y : Operand) (m sz : Nat) (news : List PV) : Prop :=
 news.length = m * sz ∧ Leafs news ∧ ∀ w c (a : Act), RelC w c σ a → (Builtin.lenOf (a.eval y)).run P w = .ok m w ∧
   ∀ n, n ≤ m → ∃ us : Array Value, (∀ d, (Builtin.firstCells sz n (a.eval y)).run P { w with drawn := d } = .ok us { w with drawn := d }) ∧ us.size = n * sz ∧ VRs w c (news.take (n * sz)) (fun i => us[i]?)
theorem SrcN.ok {P : Program} {σ : AS} {y : Operand} {m sz : Nat} {news : List PV} (h : SrcN P σ y m sz news) : SrcOK P σ y m sz news :=
 ⟨h.1, h.2.1, fun w c a hr => by
   obtain ⟨h1, h2⟩ := h.2.2 w c a hr
   obtain ⟨us, h3, h4, h5⟩ := h2 m (Nat.le_refl _)
   rw [List.take_of_length_le (Nat.le_of_eq h.1)] at h5
   exact ⟨h1, us, h3, h4, h5⟩⟩
theorem z11e {P : Program} {w : World} {c : Cx} {a : Addr} (cs : List PV) (h' : VRs w c cs (fun i => w.cell? (a.add i))) :
   ∃ us : Array Value, (∀ n, (loadCells a cs.length).run P { w with drawn := n } = .ok us { w with drawn := n }) ∧ us.size = cs.length ∧ VRs w c cs (fun i => us[i]?) := by
 refine ⟨((List.range cs.length).map (fun i => (w.cell? (a.add i)).getD undef)).toArray, fun n => ?_, by simp, z2d fun i p hp => ?_⟩
 · refine run_loadCells { w with drawn := n } a cs.length _ (fun i hi => ?_)
   obtain ⟨v, h1, _⟩ := z0s h' (List.getElem?_eq_getElem hi)
   have : ({ w with drawn := n } : World).cell? (a.add i) = w.cell? (a.add i) := rfl
   rw [this, h1]; rfl
 · have hi := (List.getElem?_eq_some_iff.1 hp).1
   obtain ⟨v, h1, h2⟩ := z0s h' hp
   exact ⟨v, by simp [hi, h1], h2⟩
theorem z18v {P : Program} {σ : AS} {y : Operand} {m sz : Nat} {news : List PV} {tl : Tail} (hy : σ.eval y = .tr m news tl) (hl : news.length = m * sz) (hlf : Leafs news) :
   SrcN P σ y m sz news := by
 refine ⟨hl, hlf, fun w c a hr => ?_⟩
 have hv := hr.2.eval y
 rw [hy] at hv
 simp only [VR] at hv
 rcases hv with ⟨h1, h2, h3, _⟩ | ⟨ad, cap, h1, _, hf, _, _, hc⟩
 · subst h2; subst h3
   rw [h1]
   refine ⟨rfl, fun n hn => ?_⟩
   have : n = 0 := by omega
   subst this
   exact ⟨#[], fun n => rfl, by simp, by simp only [List.take_nil, VRs]⟩
 · rw [h1]
   refine ⟨rfl, fun n hn => ?_⟩
   have hle : n * sz ≤ news.length := by rw [hl]; exact Nat.mul_le_mul_right _ hn
   obtain ⟨us, h4, h5, h6⟩ := z11e (P := P) (news.take (n * sz)) (z14t (zwy hf hc) _)
   have hlen : (news.take (n * sz)).length = n * sz := by rw [List.length_take]; omega
   refine ⟨us, fun d => ?_, by rw [h5, hlen], h6⟩
   show (loadCells ad (n * sz)).run P _ = _
   have := h4 d
   rw [hlen] at this; exact this
theorem z13r {P : Program} {w : World} (sz : Nat) (ad : Option Addr) : ∃ us : Array Value, (∀ n, (Builtin.firstCells sz 0 (.slice ad 0 0)).run P { w with drawn := n } = .ok us { w with drawn := n }) ∧ us.size = 0 := by
 cases ad with
 | none => exact ⟨#[], fun n => rfl, rfl⟩
 | some a =>
   obtain ⟨us, g1, g2, g3⟩ := z11e (P := P) (w := w) (c := ⟨[], [], fun _ _ => True, 0⟩) (a := a) [] (by simp only [VRs])
   refine ⟨us, fun d => ?_, g2⟩
   show (loadCells _ (0 * sz)).run P _ = _
   rw [Nat.zero_mul]; exact g1 d
theorem z1rl {P : Program} {σ : AS} {y : Operand} {b off m sz : Nat} {cs : List PV} {e : TypeId} (hy : σ.eval y = .sl b off m sz) (hb : σ.H[b]? = some (.row cs e)) (hl : off + m * sz ≤ cs.length) (hlf : Leafs ((cs.drop off).take (m * sz))) :
   SrcN P σ y m sz ((cs.drop off).take (m * sz)) := by
 have hnl : ((cs.drop off).take (m * sz)).length = m * sz := by simp; omega
 refine ⟨hnl, hlf, fun w c a hr => ?_⟩
 have hv := hr.2.eval y
 rw [hy] at hv
 simp only [VR] at hv
 rcases hv with ⟨⟨ad, h1⟩, h2⟩ | ⟨k, cap, off', h1, h2, h0, h3, vs, e', fr', h4, h5⟩
 · subst h2
   rw [h1]
   refine ⟨rfl, fun n hn => ?_⟩
   have : n = 0 := by omega
   subst this
   obtain ⟨us, g1, g2⟩ := z13r (P := P) (w := w) sz ad
   exact ⟨us, g1, by rw [g2]; simp, by simp only [Nat.zero_mul, List.take_zero, VRs]⟩
 · rw [h2]
   refine ⟨rfl, fun n hn => ?_⟩
   obtain ⟨vs2, fr, h6, hf, h7, h8, h9⟩ := (hr.1.obj b _ hb).row h1
   by_cases hn0 : n = 0
   · subst hn0
     obtain ⟨us, g1, g2, g3⟩ := z11e (P := P) (w := w) (c := c) (a := ⟨k, off', none⟩) [] (by simp only [VRs])
     refine ⟨us, fun d => ?_, by rw [g2]; simp, by simp only [Nat.zero_mul, List.take_zero, VRs]⟩
     show (loadCells _ (0 * sz)).run P _ = _
     rw [Nat.zero_mul]; exact g1 d
   · have hoff : off' = off := h0.resolve_left (fun h => by omega)
     subst hoff
     have hle : n * sz ≤ m * sz := Nat.mul_le_mul_right _ hn
     have hcells : VRs w c (((cs.drop off').take (m * sz)).take (n * sz)) (fun i => w.cell? ((⟨k, off', none⟩ : Addr).add i)) := z2d fun i q hq => by
       rw [z7d, zhf h6]
       rw [List.getElem?_take] at hq
       split at hq
       · rw [List.getElem?_take] at hq
         split at hq
         · rw [List.getElem?_drop] at hq; exact z0s h9 hq
         · cases hq
       · cases hq
     obtain ⟨us, g1, g2, g3⟩ := z11e (P := P) _ hcells
     have hlen : (((cs.drop off').take (m * sz)).take (n * sz)).length = n * sz := by rw [List.length_take, hnl]; omega
     refine ⟨us, fun d => ?_, by rw [g2, hlen], g3⟩
     show (loadCells _ (n * sz)).run P _ = _
     have := g1 d
     rw [hlen] at this; exact this
theorem z1qd {P : Program} {σ : AS} {y : Operand} {s : ByteArray} (hy : σ.eval y = .val (.string s)) :
   SrcN P σ y s.size 1 (s.data.toList.map fun b => .val (.int .u8 b.toNat)) := by
 refine ⟨by simp, fun p hp => ?_, fun w c a hr => ?_⟩
 · simp at hp; obtain ⟨b, _, rfl⟩ := hp; rfl
 · have e := z0r hr.2 hy
   rw [e]
   refine ⟨rfl, fun n hn => ⟨((s.extract 0 n).data.map fun b => .int .u8 b.toNat), fun d => rfl, ?_, z2d fun i p hp => ?_⟩⟩
   · simp only [Array.size_map, Nat.mul_one]
     have : (s.extract 0 n).size = n := by rw [ByteArray.size_extract]; omega
     exact this
   · rw [List.getElem?_take] at hp
     split at hp
     · rename_i hi
       rw [List.getElem?_map] at hp
       cases hx : s.data.toList[i]? with
       | none => rw [hx] at hp; cases hp
       | some b =>
         rw [hx] at hp; simp at hp; subst hp
         have hi' : i < n := by omega
         refine ⟨.int .u8 b.toNat, ?_, z4f rfl⟩
         have hx' : s.data[i]? = some b := by simpa using hx
         simp only [Array.getElem?_map, ByteArray.data_extract, Array.getElem?_extract]
         have hlt := (Array.getElem?_eq_some_iff.1 hx').1
         simp [hx', hi', hlt]
         omega
     · cases hp
theorem z1nk {P : Program} {o : Oper} {σ : AS} {t t2 e e' : TypeId} {x y : Operand} {b off len m sz : Nat} {cs news : List PV} {N : AS → Prop} (ho : o.op = .call { callee := .builtin .copy, args := #[x, y], argTypes := #[t, t2] })
   (ht : P.underlying t = some (.slice e)) (hs : tySz P e = some sz) (hx : σ.eval x = .sl b off len sz) (hb : σ.H[b]? = some (.row cs e')) (hlen : off + len * sz ≤ cs.length) (hsrc : SrcN P σ y m sz news)
   (hN : N (({ σ with H := σ.H.set b (.row (splice cs off (news.take (min m len * sz))) e') } : AS).put o.dst (.val (.int .i64 (min m len : Nat))))) : Step P o σ N := by
 intro c a w K Q hr hK
 obtain ⟨hsl, hslf, hsr⟩ := hsrc
 obtain ⟨hl1, hl2⟩ := hsr w c a hr
 obtain ⟨us, hu1, hu2, hu3⟩ := hl2 (min m len) (Nat.min_le_left _ _)
 have hu1' := hu1 w.drawn
 have hv := hr.2.eval x
 rw [hx] at hv
 simp only [VR] at hv
 have hnl : (news.take (min m len * sz)).length = min m len * sz := by
   rw [List.length_take, hsl]
   have : min m len * sz ≤ m * sz := Nat.mul_le_mul_right _ (Nat.min_le_left _ _)
   omega
 have hnlf : Leafs (news.take (min m len * sz)) := fun p hp => hslf p (List.mem_of_mem_take hp)
 have hself : σ.H.set b (.row cs e') = σ.H := by
   apply List.ext_getElem?
   intro j
   by_cases hj : b = j
   · subst hj; rw [List.getElem?_set_self (List.getElem?_eq_some_iff.1 hb).1, hb]
   · rw [List.getElem?_set_ne hj]
 have fin : ∀ w', Good w' c (σ.H.set b (.row (splice cs off (news.take (min m len * sz))) e')) σ.ts → Ext w c w' c → (Builtin.copy_ #[t, t2] o.type #[a.eval x, a.eval y]).run P w = .ok (.int .i64 (min m len : Nat)) w' → o.wp P a w K Q := by
   intro w' hg hx' hrun
   refine z9z (v := .int .i64 (min m len : Nat)) (w' := w') (zal ho ?_) (hK _ _ _ _ hN ⟨?_, ?_⟩ hx' (Act.put_defers' _ _ _))
   · simp only [List.map_toArray, List.map_cons, List.map_nil, builtin, Sem.run_bind, hrun, Result.andThen_ok]; rfl
   · cases o.dst <;> simpa [AS.put] using hg
   · exact SlotsR.put (σ := { σ with H := σ.H.set b (.row (splice cs off (news.take (min m len * sz))) e') }) ⟨(hr.2.ext hx').1, (hr.2.ext hx').2⟩ o.dst (z4f rfl)
 have hmin : Nat.min m len = min m len := rfl
 rcases hv with ⟨⟨ad, h1⟩, h2⟩ | ⟨k, cap, off', h1, h2, h0, h3, _⟩
 · subst h2
   have hn0 : min m 0 = 0 := by omega
   refine fin w ?_ (Ext.refl _ _) ?_
   · rw [hn0, Nat.zero_mul, List.take_zero, zv9, hself]; exact hr.1
   · unfold Builtin.copy_
     simp only [List.getElem?_toArray, List.getElem?_cons_zero, List.getElem?_cons_succ, Sem.run_bind, run_underlying ht, Result.andThen_ok, h1, hl1, run_sizeOf hs, hmin, hu1', Sem.run_pure]
     have hus : us.toList = [] := by
       rw [hn0, Nat.zero_mul] at hu2
       exact List.length_eq_zero_iff.1 (by simpa using hu2)
     cases ad with
     | none => rfl
     | some ad => simp only [hus, storeCells, Sem.run_bind, Sem.run_pure, Result.andThen_ok]; rfl
 · by_cases hn0 : min m len = 0
   · have hus : us.toList = [] := by
       rw [hn0, Nat.zero_mul] at hu2
       exact List.length_eq_zero_iff.1 (by simpa using hu2)
     refine fin w ?_ (Ext.refl _ _) ?_
     · rw [hn0, Nat.zero_mul, List.take_zero, zv9, hself]; exact hr.1
     · unfold Builtin.copy_
       simp only [List.getElem?_toArray, List.getElem?_cons_zero, List.getElem?_cons_succ, Sem.run_bind, run_underlying ht, Result.andThen_ok, h2, hl1, run_sizeOf hs, hmin, hu1', hus, storeCells, Sem.run_pure]
       rfl
   · have hoff : off' = off := h0.resolve_left (fun h => by omega)
     subst hoff
     have hle : min m len * sz ≤ len * sz := Nat.mul_le_mul_right _ (Nat.min_le_right _ _)
     obtain ⟨w', hw', g, ext⟩ := zet (P := P) us.toList (news.take (min m len * sz)) (off := off') (i := 0) hr.1 hb h1 (by simp [hu2, hnl]) (by rw [hnl]; omega) hnlf (by simpa using hu3)
     refine fin w' (by simpa using g) ext ?_
     unfold Builtin.copy_
     simp only [List.getElem?_toArray, List.getElem?_cons_zero, List.getElem?_cons_succ, Sem.run_bind, run_underlying ht, Result.andThen_ok, h2, hl1, run_sizeOf hs, hmin, hu1', hw', Sem.run_pure]
     rfl
theorem z1ks {P : Program} {o : Oper} {σ : AS} {t e e' : TypeId} {x : Operand} {b off len sz : Nat} {cs z : List PV} {N : AS → Prop} (ho : o.op = .call { callee := .builtin .clear, args := #[x], argTypes := #[t] })
   (ht : P.underlying t = some (.slice e)) (hz : z9t P e = some z) (hzn : z.length = sz) (hzl : Leafs z) (hsz : sz ≠ 0) (hx : σ.eval x = .sl b off len sz) (hb : σ.H[b]? = some (.row cs e')) (hlen : off + len * sz ≤ cs.length)
   (hN : N (({ σ with H := σ.H.set b (.row (splice cs off (List.replicate len z).flatten) e') } : AS).put o.dst .dead)) : Step P o σ N := by
 intro c a w K Q hr hK
 have hv := hr.2.eval x
 rw [hx] at hv
 simp only [VR] at hv
 have hself : σ.H.set b (.row cs e') = σ.H := by
   apply List.ext_getElem?
   intro j
   by_cases hj : b = j
   · subst hj; rw [List.getElem?_set_self (List.getElem?_eq_some_iff.1 hb).1, hb]
   · rw [List.getElem?_set_ne hj]
 have fin : ∀ w', Good w' c (σ.H.set b (.row (splice cs off (List.replicate len z).flatten) e')) σ.ts → Ext w c w' c → (Builtin.clear_ #[t] o.type #[a.eval x]).run P w = .ok (.tuple #[]) w' → o.wp P a w K Q := by
   intro w' hg hx' hrun
   refine z9z (v := .tuple #[]) (w' := w') (zal ho ?_) (hK _ _ _ _ hN ⟨?_, ?_⟩ hx' (Act.put_defers' _ _ _))
   · simp only [List.map_toArray, List.map_cons, List.map_nil, builtin, Sem.run_bind, hrun, Result.andThen_ok]; rfl
   · cases o.dst <;> simpa [AS.put] using hg
   · exact SlotsR.put (σ := { σ with H := σ.H.set b (.row (splice cs off (List.replicate len z).flatten) e') }) ⟨(hr.2.ext hx').1, (hr.2.ext hx').2⟩ o.dst (zr9 _)
 by_cases hl0 : len = 0
 · subst hl0
   refine fin w ?_ (Ext.refl _ _) ?_
   · rw [List.replicate_zero, List.flatten_nil, zv9, hself]; exact hr.1
   · unfold Builtin.clear_
     rcases hv with ⟨⟨ad, h1⟩, h2⟩ | ⟨k, cap, off', h1, h2, h0, h3, _⟩
     · simp only [List.getElem?_toArray, List.getElem?_cons_zero, Sem.run_bind, run_underlying ht, Result.andThen_ok, h1]
       cases ad <;> rfl
     · simp only [List.getElem?_toArray, List.getElem?_cons_zero, Sem.run_bind, run_underlying ht, Result.andThen_ok, h2]
       rfl
 · rcases hv with ⟨_, h2⟩ | ⟨k, cap, off', h1, h2, h0, h3, _⟩
   · exact absurd h2 hl0
   · have hoff : off' = off := h0.resolve_left (fun h => hl0 h.1)
     subst hoff
     obtain ⟨zv, z1, z2, z3⟩ := zb5 (w := w) hz
     have hz0 : z ≠ [] := fun h => hsz (by rw [← hzn, h]; rfl)
     have hlf : Leafs (List.replicate len z).flatten := fun p hp => by
       simp only [List.mem_flatten] at hp
       obtain ⟨l, hl, hp⟩ := hp
       rw [List.eq_of_mem_replicate hl] at hp
       exact hzl p hp
     have hcs : (Builtin.zeroCells zv.cells len).size = len * sz := by simp [Builtin.zeroCells, z2, hzn]
     have hvr : VRs w c (List.replicate len z).flatten (fun i => (Builtin.zeroCells zv.cells len).toList[i]?) := z2d fun i p hp => by
       have hi : i < len * sz := by
         have := (List.getElem?_eq_some_iff.1 hp).1
         rw [zne, hzn] at this; exact this
       rw [z1bg hz0 _ _ (by rw [hzn]; exact hi)] at hp
       obtain ⟨v, hv, hr'⟩ := z0s (z3 c) hp
       refine ⟨v, ?_, hr'⟩
       have hcell : (Builtin.zeroCells zv.cells len).toList[i]? = some (zv.cells[i % zv.cells.size]!) := by
         rw [Array.getElem?_toList]
         simp only [Builtin.zeroCells]
         rw [Array.getElem?_map, Array.getElem?_range, if_pos (by rw [z2, hzn]; exact hi)]; rfl
       have hv' : zv.cells[i % zv.cells.size]? = some v := by rw [z2]; exact hv
       rw [hcell, getElem!_def, hv']
     obtain ⟨w', hw', g, ext⟩ := zet (P := P) (Builtin.zeroCells zv.cells len).toList (List.replicate len z).flatten (off := off') (i := 0) hr.1 hb h1 (by rw [zne, hzn]; simpa using hcs) (by rw [zne, hzn]; omega) hlf hvr
     refine fin w' (by simpa using g) ext ?_
     unfold Builtin.clear_
     obtain ⟨l', rfl⟩ : ∃ l', len = l' + 1 := ⟨len - 1, by omega⟩
     simp only [List.getElem?_toArray, List.getElem?_cons_zero, Sem.run_bind, run_underlying ht, Result.andThen_ok, h2, z1, hw', Sem.run_pure]
end Go.Ab
set_option linter.unusedSimpArgs false
set_option linter.unusedVariables false
namespace Go.Ab
theorem z1lt {P : Program} {o : Oper} {σ : AS} {t arr e el : TypeId} {x : Operand} {lo hi : Option Operand} {b off n sz l h : Nat} {cs : List PV} (ho : o.op = .slice t x lo hi none) (ht : P.underlying t = some (.pointer arr))
   (ha : P.underlying arr = some (.array n e)) (hs : tySz P e = some sz) (hx : σ.eval x = .ptr b off) (hb : σ.H[b]? = some (.row cs el)) (hlen : off + n * sz ≤ cs.length)
   (hl : z1k σ lo 0 l) (hh : z1k σ hi n h) (h1 : l ≤ h) (h2 : h ≤ n) : QStep P o σ (.sl b (off + l * sz) (h - l) sz) :=
 q_run fun w c a hr => by
   have hv := hr.2.eval x
   rw [hx] at hv
   simp only [VR] at hv
   obtain ⟨k, hk, hxe⟩ := hv
   obtain ⟨vs, fr, h4, h5, h6, h7, h8⟩ := (hr.1.obj b _ hb).row hk
   refine ⟨.slice (some (if n = l then ⟨k, off, none⟩ else (⟨k, off, none⟩ : Addr).add (l * sz))) (h - l) (n - l), ?_, ?_⟩
   · simp only [execOp, ho, hxe, Instr.sliceAt, Instr.slice, Sem.run_bind, run_underlying ht, Result.andThen_ok, Option.map_none, asAddr, Sem.run_pure, run_underlying ha, zhp hr hl hh h1 h2, run_sizeOf hs]
   · simp only [VR]
     by_cases hn : n = l
     · rw [if_pos hn]
       refine .inr ⟨k, n - l, off, hk, rfl, ?_, by omega, vs, el, fr, h4, ?_⟩
       · by_cases hz : l * sz = 0
         · exact .inr (by omega)
         · exact .inl ⟨by omega, by omega⟩
       · rw [hn, Nat.sub_self, Nat.zero_mul]; omega
     · rw [if_neg hn, z7d]
       refine .inr ⟨k, n - l, off + l * sz, hk, rfl, .inr rfl, by omega, vs, el, fr, h4, ?_⟩
       have : l * sz + (n - l) * sz = n * sz := by rw [← Nat.add_mul]; congr 1; omega
       omega
theorem z1mx {P : Program} {o : Oper} {σ : AS} {t e : TypeId} {x : Operand} {lo hi : Option Operand} {b off len sz l h : Nat} (ho : o.op = .slice t x lo hi none) (ht : P.underlying t = some (.slice e)) (hs : tySz P e = some sz) (hz : sz ≠ 0)
   (hx : σ.eval x = .sl b off len sz) (hl : z1k σ lo 0 l) (hh : z1k σ hi len h) (h1 : l ≤ h) (h2 : h ≤ len) : QStep P o σ (.sl b (off + l * sz) (h - l) sz) :=
 q_run fun w c a hr => by
   have hv := hr.2.eval x
   rw [hx] at hv
   simp only [VR] at hv
   rcases hv with ⟨⟨ad, hxe⟩, hl0⟩ | ⟨k, cap, off', hk, hxe, h0, hcap, vs, el, fr, h4, h5⟩
   · subst hl0
     have e1 : h = 0 := by omega
     have e2 : l = 0 := by omega
     subst e1; subst e2
     refine ⟨.slice (if True then ad else Option.map (fun x => x.add (0 * sz)) ad) 0 0, ?_, ?_⟩
     · simp only [execOp, ho, hxe, Instr.sliceAt, Instr.slice, Sem.run_bind, run_underlying ht, Result.andThen_ok, Option.map_none, zhp hr hl hh (Nat.le_refl 0) (Nat.le_refl 0), run_sizeOf hs]
       rfl
     · simp only [VR]; exact .inl ⟨⟨_, rfl⟩, by simp⟩
   · refine ⟨.slice (if cap = l then some ⟨k, off', none⟩ else (some (⟨k, off', none⟩ : Addr)).map (·.add (l * sz))) (h - l) (cap - l), ?_, ?_⟩
     · simp only [execOp, ho, hxe, Instr.sliceAt, Instr.slice, Sem.run_bind, run_underlying ht, Result.andThen_ok, Option.map_none, zhp hr hl hh h1 (show h ≤ cap by omega), run_sizeOf hs]
       rfl
     · simp only [VR]
       by_cases hcl : cap = l
       · rw [if_pos hcl]
         refine .inr ⟨k, cap - l, off', hk, rfl, ?_, by omega, vs, el, fr, h4, ?_⟩
         · by_cases hlz : l = 0
           · subst hlz
             rcases h0 with ⟨h6, h7⟩ | h6
             · exact .inl ⟨by omega, by omega⟩
             · exact .inr (by omega)
           · have : 0 < l * sz := Nat.mul_pos (by omega) (by omega)
             exact .inl ⟨by omega, by omega⟩
         · rw [hcl, Nat.sub_self, Nat.zero_mul]; omega
       · rw [if_neg hcl]
         simp only [Option.map_some, z7d]
         have hm : l * sz + (cap - l) * sz = cap * sz := by rw [← Nat.add_mul]; congr 1; omega
         refine .inr ⟨k, cap - l, off' + l * sz, hk, rfl, ?_, by omega, vs, el, fr, h4, by omega⟩
         rcases h0 with ⟨h6, h7⟩ | h6
         · exact .inl ⟨by omega, by omega⟩
         · exact .inr (by omega)
end Go.Ab
set_option linter.unusedSimpArgs false
set_option linter.unusedVariables false
namespace Go.Ab
def AObj.ren (f : Nat → Option Nat) : AObj → AObj
 | .row cs e => .row (rens f cs) e
 | .raw o => .raw o
 | .gone => .gone
def z8g (b : Nat) : Nat → Option Nat := fun i => bif Nat.beq i b then none else some i
theorem z1gt {b i j : Nat} (h : z8g b i = some j) : j = i ∧ i ≠ b := by
 unfold z8g at h
 cases hb : Nat.beq i b with
 | true => rw [hb] at h; cases h
 | false =>
   rw [hb] at h; cases h
   exact ⟨rfl, fun e => by rw [e, Nat.beq_refl] at hb; cases hb⟩
def z7p (c : Cx) (b : Nat) (o : Option Nat) : Cx := { c with m := c.m.set b none ++ [o] }
structure Swap (w : World) (c : Cx) (w' : World) (b : Nat) (o : Option Nat) : Prop where
 os : w'.os = w.os
 tape : w'.tape = w.tape
 output : w'.output = w.output
 size : w.heap.size ≤ w'.heap.size
 blocks : ∀ k : Nat, k < w.heap.size → c.m[b]? ≠ some (some k) → w'.heap[k]? = w.heap[k]?
 room : ∀ (k : Nat) (vs : Array Value) (e : TypeId) (fr : Nat × Nat), w.heap[k]? = some (Obj.cells vs e fr) → ∃ (vs' : Array Value) (fr' : Nat × Nat), w'.heap[k]? = some (Obj.cells vs' e fr') ∧ vs'.size = vs.size
 new : ∀ k, o = some k → c.m[b]? = some (some k) ∨ w.heap.size ≤ k
theorem z13q {c : Cx} {b i k : Nat} {o : Option Nat} (hb : b < c.m.length) (h : (z7p c b o).m[i]? = some (some k)) : (i ≠ b ∧ c.m[i]? = some (some k)) ∨ (i = c.m.length ∧ o = some k) := by
 simp only [z7p] at h
 by_cases hi : i < c.m.length
 · rw [List.getElem?_append_left (by simpa using hi)] at h
   by_cases hib : b = i
   · subst hib; rw [List.getElem?_set_self hb] at h; cases h
   · rw [List.getElem?_set_ne hib] at h; exact .inl ⟨fun e => hib e.symm, h⟩
 · rw [List.getElem?_append_right (by simp; omega)] at h
   simp only [List.length_set] at h
   cases hj : i - c.m.length with
   | zero => rw [hj] at h; simp at h; exact .inr ⟨by omega, h⟩
   | succ n => rw [hj] at h; simp at h
theorem zwd {c : Cx} {b i : Nat} {o : Option Nat} {x : Option Nat} (hi : i ≠ b) (h : c.m[i]? = some x) : (z7p c b o).m[i]? = some x := by
 simp only [z7p]
 rw [List.getElem?_append_left (by simpa using (List.getElem?_eq_some_iff.1 h).1), List.getElem?_set_ne (fun e => hi e.symm)]; exact h
theorem z1mg {c : Cx} {b : Nat} {o : Option Nat} : (z7p c b o).m[c.m.length]? = some o := by simp [z7p]
theorem z1b6 {w w' : World} {c : Cx} {b k : Nat} {o : Option Nat} (s : Swap w c w' b o) (hb : b < c.m.length) (h : some k ∈ (z7p c b o).m) : some k ∈ c.m ∨ w.heap.size ≤ k := by
 obtain ⟨i, hi⟩ := List.mem_iff_getElem?.1 h
 rcases z13q hb hi with ⟨_, h⟩ | ⟨_, h⟩
 · exact .inl (List.mem_iff_getElem?.2 ⟨i, h⟩)
 · rcases s.new k h with h | h
   · exact .inl (List.mem_iff_getElem?.2 ⟨b, h⟩)
   · exact .inr h
theorem z18h {w w' : World} {c : Cx} {H : List AObj} (g : Good w c H []) {b : Nat} {o : Option Nat} (s : Swap w c w' b o) (hb : b < c.m.length) : Mv (z8g b) w c w' (z7p c b o) where
 noT := noT g
 id := fun i j k hf hk => by
   obtain ⟨rfl, hne⟩ := z1gt hf
   exact zwd hne hk
 foot := fun a n h => by
   rcases h with h | ⟨h1, h2, h3, h4, h5⟩
   · exact .inl h
   · refine .inr ⟨h1, Nat.lt_of_lt_of_le h2 s.size, fun hm => ?_, h4, h5⟩
     rcases z1b6 s hb hm with h | h
     · exact h3 h
     · omega
 cell := fun a n h i v hi hv => by
   rcases h with h | ⟨h1, h2, h3, h4, h5⟩
   · omega
   · rw [z6h (a := ⟨a.block, a.off + i, none⟩) (s.blocks a.block h2 fun h => h3 (List.mem_iff_getElem?.2 ⟨b, h⟩))]; exact hv
 room := s.room
theorem z1od {w w' : World} {c : Cx} {H : List AObj} (g : Good w c H []) {b : Nat} {o : Option Nat} (s : Swap w c w' b o) (hb : b < H.length) (hpn : c.pn ≤ b) {n : AObj} (hn : ObjC w' (z7p c b o) H.length n) :
   Good w' (z7p c b o) ((H.set b .gone).map (AObj.ren (z8g b)) ++ [n]) [] ∧ ExtP c.pn w c w' (z7p c b o) := by
 have hbm : b < c.m.length := by rw [g.len]; exact hb
 have mv := z18h g s hbm
 have hT := noT g
 refine ⟨{ len := by simp [z7p, g.len], inj := ?_, obj := ?_, tl := by rw [show (z7p c b o).T = c.T from rfl, hT]; rfl, tal := fun i h => by simp at h, tdead := fun i h => by simp at h,
           tok := fun i k j h => by simp only [z7p, hT] at h; simp at h, tinj := fun i i' k j j' h => by simp only [z7p, hT] at h; simp at h, okn := fun k e h => g.okn k e (Nat.le_trans s.size h), okm := g.okm,
           okt := fun i k j h => by simp only [z7p, hT] at h; simp at h, oko := ?_,
           gl := ⟨Nat.le_trans g.gl.sz s.size, fun k h => (z1b6 s hbm h).elim (g.gl.m k) (Nat.le_trans g.gl.sz), fun i k j h => by simp only [z7p, hT] at h; simp at h,
             Glob.stay (fun k hk => s.blocks k (Nat.lt_of_lt_of_le hk g.gl.sz) fun h => Nat.not_lt.2 (g.gl.m k (List.mem_iff_getElem?.2 ⟨b, h⟩)) hk) g.gl.var⟩ }, ?_⟩
 · intro i j k h1 h2
   rcases z13q hbm h1 with ⟨n1, h1⟩ | ⟨n1, h1⟩ <;> rcases z13q hbm h2 with ⟨n2, h2⟩ | ⟨n2, h2⟩
   · exact g.inj i j k h1 h2
   · rcases s.new k h2 with h | h
     · exact absurd (g.inj i b k h1 h) n1
     · have := ObjC.lt g h1; omega
   · rcases s.new k h1 with h | h
     · exact absurd (g.inj j b k h2 h) n2
     · have := ObjC.lt g h2; omega
   · omega
 · intro i q hq
   by_cases hi : i < H.length
   · rw [List.getElem?_append_left (by simpa using hi), List.getElem?_map] at hq
     by_cases hib : b = i
     · subst hib
       rw [List.getElem?_set_self hb] at hq
       simp only [Option.map_some, AObj.ren, Option.some.injEq] at hq
       subst hq
       show (z7p c b o).m[b]? = some none
       simp only [z7p]
       rw [List.getElem?_append_left (by simpa using hbm), List.getElem?_set_self hbm]
     · rw [List.getElem?_set_ne hib] at hq
       cases ho : H[i]? with
       | none => rw [ho] at hq; cases hq
       | some q0 =>
         rw [ho] at hq
         simp only [Option.map_some, Option.some.injEq] at hq
         subst hq
         have hne : i ≠ b := fun e => hib e.symm
         have hob := g.obj i q0 ho
         have hblk : ∀ k : Nat, c.m[i]? = some (some k) → w'.heap[k]? = w.heap[k]? := fun k hk => s.blocks k (ObjC.lt g hk) fun h => hne (g.inj i b k hk h)
         cases q0 with
         | row cs e =>
           rcases hob with ⟨h1, h2⟩ | ⟨k, vs, fr, h1, h2, hf, h3, hl, h4⟩
           · exact .inl ⟨by rw [h1]; rfl, zwd hne h2⟩
           · exact .inr ⟨k, vs, fr, zwd hne h1, (hblk k h1).trans h2, hf, by rw [zl7]; exact h3, zm2 hl, VRs.move mv cs (fun _ _ _ e => e) h4⟩
         | raw ob =>
           obtain ⟨k, h1, h2⟩ := hob
           exact ⟨k, zwd hne h1, (hblk k h1).trans h2⟩
         | gone => exact zwd hne hob
   · rw [List.getElem?_append_right (by simpa using hi)] at hq
     simp only [List.length_map, List.length_set] at hq
     cases hj : i - H.length with
     | zero =>
       rw [hj] at hq; simp at hq; subst hq
       have : i = H.length := by omega
       rw [this]; exact hn
     | succ m => rw [hj] at hq; simp at hq
 · intro i k hi h e
   rcases z13q hbm h with ⟨_, h⟩ | ⟨_, h⟩
   · exact g.oko i k hi h e
   · rcases s.new k h with h | h
     · exact g.oko b k hpn h e
     · exact g.okn k e h
 · exact ⟨s.os, s.tape, s.output, s.size, fun k hk => z1b6 s hbm hk, fun k hk hm => s.blocks k hk fun h => hm (List.mem_iff_getElem?.2 ⟨b, h⟩), rfl, rfl, fun i k hi hk => zwd (fun e => by omega) hk, s.room⟩
end Go.Ab