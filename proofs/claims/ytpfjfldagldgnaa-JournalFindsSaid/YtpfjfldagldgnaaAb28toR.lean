import Derived.Test.YtpfjfldagldgnaaAb23to27
import Derived.Laws.IdiomStrings
import Derived.ControlIn
import Derived.CallsIn
import Derived.OrdersIn
import Derived.RangeFuncCalls
import Derived.Scope
set_option linter.unusedSimpArgs false
set_option linter.unusedVariables false
namespace Go.Ab
structure AppRun (P : Program) (t t2 e : TypeId) (sz nb m : Nat) (us : Array Value) (yv : Value) (w : World) : Prop where
 keep : ∀ (b : Option Addr) len cap ty, m = 0 → len ≤ cap → (Builtin.append_ #[t, t2] ty #[.slice b len cap, yv]).run P w = .ok (.slice b len cap) w
 room : ∀ (a : Addr) len cap w' ty, len + m ≤ cap → (storeCells (a.add (len * sz)) us.toList).run P w = .ok () w' → (Builtin.append_ #[t, t2] ty #[.slice (some a) len cap, yv]).run P w = .ok (.slice (some a) (len + m) cap) w'
 grow : ∀ (b : Option Addr) len cap (os : Array Value) ty, (∀ n, (Builtin.firstCells sz len (.slice b len cap)).run P { w with drawn := n } = .ok os { w with drawn := n }) → ¬ len + m ≤ cap → (len + m) * nb ≤ 2 ^ 47 →
   ∃ rest : Array Value, ∃ ncap, len + m ≤ ncap ∧ rest.size = (ncap - (len + m)) * sz ∧ (Builtin.append_ #[t, t2] ty #[.slice b len cap, yv]).run P w = .ok (.slice (some ⟨w.heap.size, 0, none⟩) (len + m) ncap) (Go.Ab.grow { w with drawn := w.drawn + 1 } (.cells (os ++ us ++ rest) e (0, 0)))
theorem z1rg {P : Program} {t t2 e : TypeId} {sz nb m : Nat} {us : Array Value} {yv : Value} {w : World} (ht : P.underlying t = some (.slice e)) (he : ElemT P e sz nb) (ht2 : srcTy P t2 = true) (hl : (Builtin.lenOf yv).run P w = .ok m w)
   (hc : ∀ n, (Builtin.firstCells sz m yv).run P { w with drawn := n } = .ok us { w with drawn := n }) (hsz : us.size = m * sz) : AppRun P t t2 e sz nb m us yv w where
 keep := fun b len cap ty hm hr => by
   subst hm
   exact zj3 ht he.size ht2 hl (hc w.drawn) (by rw [hsz]; simp) hr ty
 room := fun a len cap w' ty hr hst => z1by ht he.size ht2 hl (hc w.drawn) hr hst ty
 grow := fun b len cap os ty hold hr hb => zpy ht he ht2 hl hold hc hr hb ty
theorem z1pj {P : Program} {t t2 e : TypeId} {sz nb m : Nat} {k kn : IntKind} {z : List PV} {w : World} (ht : P.underlying t = some (.slice e)) (he : ElemT P e sz nb) (ht2 : P.underlying t2 = some (.int kn)) (hz : z9t P e = some z) (hzn : z.length = sz) (hm : 0 < m) (hsz : sz ≠ 0) (hmb : m * nb ≤ 2 ^ 47) :
   ∃ us : Array Value, us.size = m * sz ∧ (∀ c, VRs w c (List.replicate m z).flatten (fun i => us[i]?)) ∧ AppRun P t t2 e sz nb m us (.int k m) w := by
 obtain ⟨zv, z1, z2, z3⟩ := zb5 (w := w) hz
 have hnb := he.pos
 have hm63 : (m : Int) ≤ 9223372036854775807 := by
   have : m ≤ m * nb := Nat.le_mul_of_pos_right m (Nat.pos_of_ne_zero hnb)
   omega
 have hw : IntKind.i64.wrap (m : Int) = m := by rw [show IntKind.i64.wrap (m : Int) = ((m : Int) + 9223372036854775808) % 18446744073709551616 - 9223372036854775808 by simp [IntKind.wrap, IntKind.bits, IntKind.signed]; split <;> omega]; omega
 have hzd : ∀ n, ∃ zv', (zeroValue e).run P { w with drawn := n } = .ok zv' { w with drawn := n } ∧ zv'.cells = zv.cells := fun n => by
   have hcell : ∀ w1 : World, (zeroValue e).run P w1 = .ok zv w1 := fun w1 => by
     have h1 := z1
     unfold zeroValue at h1 ⊢
     simp only [Sem.run_bind] at h1 ⊢
     unfold typeInfo at h1 ⊢
     cases hi : P.info? e with
     | none => simp [hi, Sem.run_bind, Result.andThen] at h1 ⊢
     | some i =>
       cases hzz : i.zero with
       | none => simp [hi, hzz, Sem.run_bind, Result.andThen] at h1 ⊢
       | some q => simp [hi, hzz, Sem.run_bind, Result.andThen] at h1 ⊢; exact h1
   exact ⟨zv, hcell _, rfl⟩
 have hmz : ¬ m * sz = 0 := Nat.mul_ne_zero (by omega) hsz
 obtain ⟨us, hus⟩ : ∃ us, us = Builtin.zeroCells zv.cells m := ⟨_, rfl⟩
 have husz : us.size = m * sz := by rw [hus]; simp [Builtin.zeroCells, z2, hzn]
 refine ⟨us, husz, fun c => z2d fun i p hp => ?_, ⟨fun b len cap ty h0 _ => by omega, fun a len cap w' ty hr hst => ?_, fun b len cap os ty hold hr hb => ?_⟩⟩
 · have hi : i < m * sz := by
     have := (List.getElem?_eq_some_iff.1 hp).1
     simpa [hzn] using this
   have hget : (List.replicate m z).flatten[i]? = z[i % z.length]? := by
     have hz0 : z ≠ [] := fun h => hsz (by rw [← hzn, h]; rfl)
     clear hp
     have key : ∀ (n i : Nat), i < n * z.length → (List.replicate n z).flatten[i]? = z[i % z.length]? := by
       intro n
       induction n with
       | zero => intro i h; omega
       | succ n ih =>
         intro i h
         rw [List.replicate_succ, List.flatten_cons]
         have hl : 0 < z.length := List.length_pos_iff.2 hz0
         by_cases hlt : i < z.length
         · rw [List.getElem?_append_left hlt, Nat.mod_eq_of_lt hlt]
         · rw [List.getElem?_append_right (by omega), ih (i - z.length) (by rw [Nat.succ_mul] at h; omega), ← Nat.mod_eq_sub_mod (by omega)]
     exact key m i (by rw [hzn]; exact hi)
   rw [hget] at hp
   obtain ⟨v, h1, h2⟩ := z0s (z3 c) hp
   refine ⟨v, ?_, h2⟩
   rw [hus]
   have hcell : (Builtin.zeroCells zv.cells m)[i]? = some (zv.cells[i % zv.cells.size]!) := by
     simp only [Builtin.zeroCells]
     rw [Array.getElem?_map, Array.getElem?_range, if_pos (by rw [z2, hzn]; exact hi)]; rfl
   have hv' : zv.cells[i % zv.cells.size]? = some v := by rw [z2]; exact h1
   rw [hcell, getElem!_def, hv']
 · obtain ⟨i0, hi0, hib⟩ := he.info w
   unfold Builtin.append_
   simp only [List.getElem?_toArray, List.getElem?_cons_zero, List.getElem?_cons_succ]
   have c1 : ¬ ((m : Int) < 0) := by omega
   have c2 : ¬ ((m : Int) * (i0.bytes : Int) > 2 ^ 48) := by
     rw [hib, ← Int.natCast_mul]
     omega
   simp only [Sem.run_bind, run_underlying ht, run_sizeOf he.size, Result.andThen_ok, run_underlying ht2, Sem.run_pure, if_true, asInt, asIntOf, hw, if_neg c1, hi0, if_neg c2, Int.toNat_natCast, if_pos hr, Bool.not_true, Bool.false_eq_true, if_false, if_neg hmz, z1]
   rw [← hus]
   simp only [hst, Result.andThen_ok]
 · obtain ⟨i0, hi0, hib⟩ := he.info w
   obtain ⟨i1, hi1, hib1⟩ := he.info { w with drawn := w.drawn + 1 }
   obtain ⟨zv', zd1, zd2⟩ := hzd (w.drawn + 1)
   refine ⟨Builtin.zeroCells zv.cells ((Question.appendCap (len + m) cap e).cut (w.tape w.drawn (.appendCap (len + m) cap e)) - (len + m)),
     (Question.appendCap (len + m) cap e).cut (w.tape w.drawn (.appendCap (len + m) cap e)), Nat.le_add_right _ _, ?_, ?_⟩
   · simp [Builtin.zeroCells, z2, hzn]
   · unfold Builtin.append_
     simp only [List.getElem?_toArray, List.getElem?_cons_zero, List.getElem?_cons_succ]
     have c1 : ¬ ((m : Int) < 0) := by omega
     have c2 : ¬ ((m : Int) * (i0.bytes : Int) > 2 ^ 48) := by
       rw [hib, ← Int.natCast_mul]
       omega
     have hlm : len + m ≤ (len + m) * nb := Nat.le_mul_of_pos_right _ (Nat.pos_of_ne_zero hnb)
     have hb1 : ¬ (((len + m : Nat) : Int) > IntKind.i64.max ∧ ((true : Bool) = true ∨ i0.bytes = 0)) := by
       rintro ⟨h, _⟩
       have : IntKind.i64.max = 9223372036854775807 := by decide
       rw [this] at h
       omega
     have hb2 : ¬ Builtin.nextslicecap (len + m) cap * i0.bytes > 2 ^ 48 := by
       have := z1dd (len + m) cap (by omega)
       have h3 : Builtin.nextslicecap (len + m) cap * i0.bytes ≤ 2 * (len + m) * i0.bytes := Nat.mul_le_mul_right _ this
       rw [hib] at h3 ⊢
       rw [Nat.mul_assoc] at h3
       omega
     have hb1' : ¬ (((len + m : Nat) : Int) > IntKind.i64.max) := fun h => hb1 ⟨h, .inl rfl⟩
     simp only [Sem.run_bind, run_underlying ht, run_sizeOf he.size, Result.andThen_ok, run_underlying ht2, Sem.run_pure, if_true, asInt, asIntOf, hw, if_neg c1, hi0, if_neg c2, Int.toNat_natCast, if_neg hr, true_or, and_true]
     rw [if_neg hb1']
     simp only [Sem.run_bind, Sem.run_pure, Result.andThen_ok, hi0, if_neg hb2, run_choose, Question.forced, Bool.false_eq_true, if_false, run_askRoom, hi1, hold, Bool.not_true, if_neg hmz, zd1, zd2,
       newRow, run_newObj]
     rw [← hus]
     rfl
theorem z1cj {P : Program} {o : Oper} {σ : AS} {c : Cx} {a : Act} {w : World} {K : Act → World → Prop} {Q : Exit → Act → World → Prop} {t t2 e : TypeId} {x y : Operand} {b len m sz nb : Nat} {cs news : List PV}
   (ho : o.op = .call { callee := .builtin .append, args := #[x, y], argTypes := #[t, t2] }) (ht : P.underlying t = some (.slice e)) (he : ElemT P e sz nb)
   (hx : σ.eval x = .sl b 0 len sz) (hb : σ.H[b]? = some (.row cs e)) (hcs : cs.length = len * sz) (hnl : news.length = m * sz) (hnlf : Leafs news) (hsr : ∃ us : Array Value, us.size = m * sz ∧ VRs w c news (fun i => us[i]?) ∧ AppRun P t t2 e sz nb m us (a.eval y) w) (hbd : (len + m) * nb ≤ 2 ^ 47) (hr : RelC w c σ a) (hts : σ.ts = []) (hpn : c.pn ≤ b)
   (hK : ∀ v w' c2, Good w' c2 ((σ.H.set b .gone).map (AObj.ren (z8g b)) ++ [.row (rens (z8g b) (cs ++ news)) e]) [] → VR w' c2 (.sl σ.H.length 0 (len + m) sz) v → ExtP c.pn w c w' c2 → Mv (z8g b) w c w' c2 → K (a.put o.dst v) w') :
   o.wp P a w K Q := by
 have g : Good w c σ.H [] := hts ▸ hr.1
 have hbl : b < σ.H.length := (List.getElem?_eq_some_iff.1 hb).1
 have hbm : b < c.m.length := by rw [g.len]; exact hbl
 have hv := hr.2.eval x
 rw [hx] at hv
 simp only [VR] at hv
 obtain ⟨us, husz, husv, ar⟩ := hsr
 have hml : (z7p c b none).m.length = σ.H.length + 1 := by simp [z7p, g.len]
 have hlast : ∀ q : Option Nat, (z7p c b q).m[σ.H.length]? = some q := fun q => by rw [← g.len]; exact z1mg
 have done : ∀ (v : Value) (w' : World) (q : Option Nat), (Builtin.append_ #[t, t2] o.type #[a.eval x, a.eval y]).run P w = .ok v w' → Swap w c w' b q →
     ObjC w' (z7p c b q) σ.H.length (.row (rens (z8g b) (cs ++ news)) e) → VR w' (z7p c b q) (.sl σ.H.length 0 (len + m) sz) v → o.wp P a w K Q := by
   intro v w' q hrun s hobj hvr
   obtain ⟨g2, x2⟩ := z1od g s hbl hpn hobj
   refine z9z (v := v) (w' := w') (zal ho ?_) (hK v w' _ g2 hvr x2 (z18h g s hbm))
   simp only [List.map_toArray, List.map_cons, List.map_nil, builtin, Sem.run_bind, hrun, Result.andThen_ok]; rfl
 have hsz : sz ≠ 0 ∨ True := .inr trivial
 have growing : ∀ (ad : Option Addr) (cap : Nat), a.eval x = .slice ad len cap → (∃ os : Array Value, (∀ n, (Builtin.firstCells sz len (.slice ad len cap)).run P { w with drawn := n } = .ok os { w with drawn := n }) ∧
     os.size = len * sz ∧ VRs w c cs (fun i => os[i]?)) → Leafs cs → ¬ len + m ≤ cap → o.wp P a w K Q := by
   intro ad cap hxe ⟨os, hos, hosz, hosv⟩ hlf hroom
   obtain ⟨rest, ncap, hn1, hn2, hrun⟩ := ar.grow ad len cap os o.type hos hroom hbd
   rw [← hxe] at hrun
   have s : Swap w c (grow { w with drawn := w.drawn + 1 } (.cells (os ++ us ++ rest) e (0, 0))) b (some w.heap.size) :=
     { os := rfl, tape := rfl, output := rfl, size := by simp [grow], blocks := fun k hk _ => zhw { w with drawn := w.drawn + 1 } _ k hk,
       room := fun k vs e' fr h => ⟨vs, fr, (zhw { w with drawn := w.drawn + 1 } _ k (Array.getElem?_eq_some_iff.1 h).1).trans h, rfl⟩, new := fun k h => by cases h; exact .inr (Nat.le_refl _) }
   have mv := z18h g s hbm
   have hblk : (grow { w with drawn := w.drawn + 1 } (.cells (os ++ us ++ rest) e (0, 0))).heap[w.heap.size]? = some (.cells (os ++ us ++ rest) e (0, 0)) := zoi { w with drawn := w.drawn + 1 } _
   have hall : (os ++ us ++ rest).size = ncap * sz := by
     rw [Array.size_append, Array.size_append, hosz, husz, hn2, ← Nat.add_mul, ← Nat.add_mul]
     congr 1; omega
   have hcat : VRs w c (cs ++ news) (fun i => (os ++ us ++ rest)[i]?) := z2d fun i p hp => by
     by_cases hi : i < cs.length
     · rw [List.getElem?_append_left hi] at hp
       obtain ⟨u, hu, hr'⟩ := z0s hosv hp
       refine ⟨u, ?_, hr'⟩
       have hlt := (Array.getElem?_eq_some_iff.1 hu).1
       rw [Array.getElem?_append_left (by rw [Array.size_append]; omega), Array.getElem?_append_left hlt]; exact hu
     · rw [List.getElem?_append_right (by omega)] at hp
       obtain ⟨u, hu, hr'⟩ := z0s husv hp
       refine ⟨u, ?_, hr'⟩
       have hlt := (Array.getElem?_eq_some_iff.1 hu).1
       rw [Array.getElem?_append_left (by rw [Array.size_append]; omega), Array.getElem?_append_right (by omega), hosz, ← hcs]; exact hu
   refine done _ _ (some w.heap.size) hrun s (.inr ⟨w.heap.size, _, (0, 0), hlast _, hblk, zf4 _, ?_, zm2 (fun p hp => (List.mem_append.1 hp).elim (hlf p) (hnlf p)), VRs.move mv _ (fun _ _ _ e => e) hcat⟩) ?_
   · rw [zl7, List.length_append, hcs, hnl, ← Nat.add_mul, hall]; exact Nat.mul_le_mul_right _ hn1
   · simp only [VR]
     exact .inr ⟨w.heap.size, ncap, 0, hlast _, rfl, .inr rfl, hn1, _, e, (0, 0), hblk, by rw [hall]; omega⟩
 rcases hv with ⟨⟨ad, hxe⟩, hl0⟩ | ⟨k, cap, off', hk, hxe, h0, hcap, vs0, e0, fr0, h4, h5⟩
 · subst hl0
   have hc0 : cs = [] := List.length_eq_zero_iff.1 (by rw [hcs]; simp)
   subst hc0
   by_cases hm : m = 0
   · subst hm
     have hn0 : news = [] := List.length_eq_zero_iff.1 (by rw [hnl]; simp)
     subst hn0
     have hrun := ar.keep ad 0 0 o.type rfl (Nat.le_refl 0)
     rw [← hxe] at hrun
     refine done _ w none hrun ⟨rfl, rfl, rfl, Nat.le_refl _, fun _ _ _ => rfl, fun k vs e fr h => ⟨vs, fr, h, rfl⟩, fun k h => by cases h⟩ (.inl ⟨rfl, hlast _⟩) ?_
     rw [hxe]; simp only [VR]
     exact .inl ⟨⟨_, rfl⟩, trivial⟩
   · exact growing ad 0 hxe (by obtain ⟨us, g1, g2⟩ := z13r (P := P) (w := w) sz ad; exact ⟨us, g1, by rw [g2]; simp, by simp only [VRs]⟩) (fun p hp => by cases hp) (by omega)
 · have hoff : off' = 0 := h0.resolve_left (fun h => h.2 rfl)
   subst hoff
   obtain ⟨vs, fr, h6, hf, h7, h8, h9⟩ := (g.obj b _ hb).row hk
   rw [h6] at h4; cases h4
   by_cases hroom : len + m ≤ cap
   · have hmul : (len + m) * sz ≤ cap * sz := Nat.mul_le_mul_right _ hroom
     rw [Nat.add_mul] at hmul
     have hone : ∀ u, u ∈ us.toList → u.oneCell' = true := fun u hu => by
       obtain ⟨i, hi⟩ := List.mem_iff_getElem?.1 hu
       have hlt : i < news.length := by
         have := (List.getElem?_eq_some_iff.1 hi).1
         simp at this; omega
       obtain ⟨u', hu', hr'⟩ := z0s husv (List.getElem?_eq_getElem hlt)
       have : us[i]? = some u := by simpa using hi
       rw [this] at hu'; cases hu'
       exact z13t (hnlf _ (List.getElem_mem hlt)) hr'
     obtain ⟨w', vs', f1, f2, f3, f4, f5, f6, f7, f8, f9⟩ := zq2 (P := P) us.toList (off := len * sz) (i := 0) h6 hf (by simp [husz]; omega) hone
     have hrun := ar.room ⟨k, 0, none⟩ len cap w' o.type hroom (by rw [z7d, Nat.zero_add]; exact f1)
     rw [← hxe] at hrun
     have s : Swap w c w' b (some k) :=
       { os := f7, tape := f8, output := f9, size := Nat.le_of_eq f6.symm, blocks := fun k' _ hne => f5 k' (fun e => hne (e ▸ hk)),
         room := fun k' vs2 e2 fr2 h => by
           by_cases hkk : k' = k
           · subst hkk; rw [h6] at h; cases h; exact ⟨vs', _, f2, f3⟩
           · exact ⟨vs2, fr2, (f5 k' hkk).trans h, rfl⟩
         new := fun k' h => by cases h; exact .inl hk }
     have mv := z18h g s hbm
     have hcat : VRs w c (cs ++ news) (fun i => vs'[i]?) := z2d fun i p hp => by
       show ∃ v, vs'[i]? = some v ∧ _
       rw [f4 i]
       simp only [Nat.add_zero, Array.length_toList, husz]
       by_cases hi : i < cs.length
       · rw [List.getElem?_append_left hi] at hp
         rw [if_neg (by omega)]
         exact z0s h9 hp
       · rw [List.getElem?_append_right (by omega)] at hp
         have hlt := (List.getElem?_eq_some_iff.1 hp).1
         rw [if_pos (by omega)]
         obtain ⟨u, hu, hr'⟩ := z0s husv hp
         exact ⟨u, by rw [← hcs]; simpa using hu, hr'⟩
     refine done _ w' (some k) hrun s (.inr ⟨k, vs', _, hlast _, f2, by rw [f3]; exact hf, ?_, zm2 (fun p hp => (List.mem_append.1 hp).elim (h8 p) (hnlf p)), VRs.move mv _ (fun _ _ _ e => e) hcat⟩) ?_
     · rw [zl7, List.length_append, hcs, hnl, f3]; omega
     · simp only [VR]
       exact .inr ⟨k, cap, 0, hlast _, rfl, .inr rfl, hroom, vs', _, _, f2, by rw [f3]; exact h5⟩
   · refine growing (some ⟨k, 0, none⟩) cap hxe ?_ h8 hroom
     obtain ⟨os, g1, g2, g3⟩ := z11e (P := P) (w := w) (c := c) (a := ⟨k, 0, none⟩) cs (z2d fun i p hp => by
       rw [z7d, zhf h6, Nat.zero_add]; exact z0s h9 hp)
     refine ⟨os, fun n => ?_, by rw [g2, hcs], g3⟩
     show (loadCells ⟨k, 0, none⟩ (len * sz)).run P _ = _
     rw [← hcs]; exact g1 n
theorem z1l5 {P : Program} {o : Oper} {σ : AS} {c : Cx} {a : Act} {w : World} {K : Act → World → Prop} {Q : Exit → Act → World → Prop} {t t2 e : TypeId} {x y : Operand} {b len m sz nb : Nat} {cs news : List PV}
   (ho : o.op = .call { callee := .builtin .append, args := #[x, y], argTypes := #[t, t2] }) (ht : P.underlying t = some (.slice e)) (he : ElemT P e sz nb) (ht2 : srcTy P t2 = true)
   (hx : σ.eval x = .sl b 0 len sz) (hb : σ.H[b]? = some (.row cs e)) (hcs : cs.length = len * sz) (hsrc : SrcOK P σ y m sz news) (hbd : (len + m) * nb ≤ 2 ^ 47) (hr : RelC w c σ a) (hts : σ.ts = []) (hpn : c.pn ≤ b)
   (hK : ∀ v w' c2, Good w' c2 ((σ.H.set b .gone).map (AObj.ren (z8g b)) ++ [.row (rens (z8g b) (cs ++ news)) e]) [] → VR w' c2 (.sl σ.H.length 0 (len + m) sz) v → ExtP c.pn w c w' c2 → Mv (z8g b) w c w' c2 → K (a.put o.dst v) w') :
   o.wp P a w K Q := by
 obtain ⟨hnl, hnlf, hsr⟩ := hsrc
 obtain ⟨hlen, us, hus, husz, husv⟩ := hsr w c a hr
 exact z1cj ho ht he hx hb hcs hnl hnlf ⟨us, husz, husv, z1rg ht he ht2 hlen hus husz⟩ hbd hr hts hpn hK
end Go.Ab
set_option linter.unusedSimpArgs false
set_option linter.unusedVariables false
namespace Go.Ab
def NewObj (P : Program) (o : Oper) (σ : AS) (cs : List PV) (e : TypeId) (pf : Nat → PV) : Prop :=
 Leafs cs ∧ ∀ w c (a : Act), RelC w c σ a → ∃ (v : Value) (d : Nat),
   (∃ (vs : Array Value) (fr : Nat × Nat), (execOp a.eval o).run P w = .ok (.value v) (grow { w with drawn := d } (.cells vs e fr)) ∧ nofz fr vs.size ∧ cs.length ≤ vs.size ∧ VRs w c cs (fun i => vs[i]?) ∧
     ∀ (w' : World) (c' : Cx) (b : Nat), w'.heap[w.heap.size]? = some (.cells vs e fr) → c'.m[b]? = some (some w.heap.size) → VR w' c' (pf b) v) ∨
   (cs = [] ∧ (execOp a.eval o).run P w = .ok (.value v) { w with drawn := d } ∧ ∀ (w' : World) (c' : Cx) (b : Nat), c'.m[b]? = some none → VR w' c' (pf b) v)
theorem z1pd {w : World} {c : Cx} {H : List AObj} {ts : List Bool} (g : Good w c H ts) (e : TypeId) : Good w { c with m := c.m ++ [none] } (H ++ [.row [] e]) ts ∧ Ext w c w { c with m := c.m ++ [none] } := by
 obtain ⟨g1, x1⟩ := z1f3 g 1
 refine ⟨{ g1 with len := by simpa using g1.len, obj := fun i o h => ?_ }, x1⟩
 by_cases hi : i < H.length
 · rw [List.getElem?_append_left hi] at h
   exact g1.obj i o (by rw [List.getElem?_append_left hi]; exact h)
 · rw [List.getElem?_append_right (by omega)] at h
   cases hj : i - H.length with
   | zero =>
     rw [hj] at h
     simp at h
     subst h
     exact .inl ⟨rfl, by
       have := g1.obj i .gone (by rw [List.getElem?_append_right (by omega), hj]; rfl)
       exact this⟩
   | succ n => rw [hj] at h; simp at h
theorem z1p4 {P : Program} {o : Oper} {σ : AS} {cs : List PV} {e : TypeId} {pf : Nat → PV} {N : AS → Prop} (h : NewObj P o σ cs e pf)
   (hN : N { σ.put o.dst (pf σ.H.length) with H := σ.H ++ [.row cs e] }) : Step P o σ N := by
 intro c a w K Q hr hK
 obtain ⟨hlf, h⟩ := h
 have put : ∀ (w' : World) (c' : Cx) (v : Value), Good w' c' (σ.H ++ [.row cs e]) σ.ts → Ext w c w' c' → VR w' c' (pf σ.H.length) v → RelC w' c' { σ.put o.dst (pf σ.H.length) with H := σ.H ++ [.row cs e] } (a.put o.dst v) := by
   intro w' c' v g x hv
   have hs := (hr.2.ext x).put o.dst hv
   cases hd : o.dst with
   | none => rw [hd] at hs; exact ⟨g, hs⟩
   | some d => rw [hd] at hs; exact ⟨g, hs⟩
 rcases h w c a hr with ⟨v, d, ⟨vs, fr, h1, h2, h3, h4, h5⟩ | ⟨rfl, h1, h2⟩⟩
 · have hq := zhm hr.1 d
   obtain ⟨g, x⟩ := z1ne (e := e) (fr := fr) hq.1 h3 h2 hlf (VRs.ext hq.2 cs (fun _ _ _ e => e) h4)
   have x2 := hq.2.trans x
   refine z9z h1 (hK _ _ _ _ hN (put _ _ _ g x2 (h5 _ _ _ (zoi { w with drawn := d } _) ?_)) x2 (Act.put_defers' _ _ _))
   rw [← hr.1.len]; simp
 · have hq := zhm hr.1 d
   obtain ⟨g, x⟩ := z1pd hq.1 e
   have x2 := hq.2.trans x
   refine z9z h1 (hK _ _ _ _ hN (put _ _ _ g x2 (h2 _ _ _ ?_)) x2 (Act.put_defers' _ _ _))
   rw [← hr.1.len]; simp
theorem z1q9 {P : Program} {o : Oper} {σ : AS} {t e : TypeId} {x y : Operand} {k k' : IntKind} {n : Int} {nb sz : Nat} {z : List PV} (ho : o.op = .makeSlice t x y) (ht : P.underlying t = some (.slice e))
   (he : ElemT P e sz nb) (hz : z9t P e = some z) (hzn : z.length = sz) (hzl : Leafs z) (hsz : sz ≠ 0) (hx : σ.eval x = .val (.int k n)) (hy : σ.eval y = .val (.int k' n)) (h0 : 0 ≤ n) (h1 : nb * n ≤ 2 ^ 48) (h2 : n ≤ 9223372036854775807) :
   NewObj P o σ (List.replicate n.toNat z).flatten e (fun b => .sl b 0 n.toNat sz) := by
 have hlf : Leafs (List.replicate n.toNat z).flatten := fun p hp => by
   simp only [List.mem_flatten] at hp
   obtain ⟨l, hl, hp⟩ := hp
   rw [List.eq_of_mem_replicate hl] at hp
   exact hzl p hp
 refine ⟨hlf, fun w c a hr => ?_⟩
 have ex := z0r hr.2 hx
 have ey := z0r hr.2 hy
 obtain ⟨zv, z1, z2, z3⟩ := zb5 (w := w) hz
 obtain ⟨i0, hi0, hib⟩ := he.info w
 have hw : IntKind.i64.wrap n = n := by rw [show IntKind.i64.wrap n = (n + 9223372036854775808) % 18446744073709551616 - 9223372036854775808 by simp [IntKind.wrap, IntKind.bits, IntKind.signed]; split <;> omega]; omega
 let cells : Array Value := (Array.range (n.toNat * sz)).map fun i => (if n.toNat * sz = 0 then #[] else zv.cells)[i % (if n.toNat * sz = 0 then #[] else zv.cells).size]!
 have hcs : cells.size = n.toNat * sz := by simp [cells]
 have hz0 : z ≠ [] := fun h => hsz (by rw [← hzn, h]; rfl)
 have hvr : VRs w c (List.replicate n.toNat z).flatten (fun i => cells[i]?) := z2d fun i p hp => by
   have hi : i < n.toNat * sz := by
     have := (List.getElem?_eq_some_iff.1 hp).1
     rw [zne, hzn] at this; exact this
   have hne : ¬ n.toNat * sz = 0 := by omega
   rw [z1bg hz0 _ _ (by rw [hzn]; exact hi)] at hp
   obtain ⟨v, hv, hr'⟩ := z0s (z3 c) hp
   have hlt : i % z.length < zv.cells.size := by rw [z2]; exact (List.getElem?_eq_some_iff.1 hp).1
   refine ⟨v, ?_, hr'⟩
   have hcell : cells[i]? = some (zv.cells[i % zv.cells.size]!) := by
     simp only [cells, if_neg hne]
     rw [Array.getElem?_map, Array.getElem?_range, if_pos hi]; rfl
   have hv' : zv.cells[i % zv.cells.size]? = some v := by rw [z2]; exact hv
   rw [hcell, getElem!_def, hv']
 have hrun : (execOp a.eval o).run P w = .ok (.value (.slice (some ⟨w.heap.size, 0, none⟩) n.toNat n.toNat)) (grow w (.cells cells e (0, 0))) := by
   simp only [execOp, ho, Instr.makeSlice, Sem.run_bind, run_underlying ht, Result.andThen_ok, asInt, asIntOf, ex, ey, Sem.run_pure, hi0, hw, hib]
   have hno' : (decide (n < 0) || decide ((nb : Int) * n > 2 ^ 48) || decide (n < 0) || decide (n > n)) = false := by
     simp; omega
   simp only [hno', Bool.false_eq_true, if_false]
   by_cases hn : n.toNat * sz = 0
   · simp only [run_askRoom, run_sizeOf he.size, Sem.run_bind, Sem.run_pure, Result.andThen_ok, if_pos hn, newRow, run_newObj, cells]
     rfl
   · simp only [run_askRoom, run_sizeOf he.size, Sem.run_bind, Sem.run_pure, Result.andThen_ok, if_neg hn, z1, newRow, run_newObj, cells]
     rfl
 refine ⟨_, w.drawn, .inl ⟨cells, (0, 0), hrun, zf4 _, by rw [hcs, zne, hzn]; exact Nat.le_refl _, hvr, fun w' c' b hb hm => ?_⟩⟩
 simp only [VR]
 exact .inr ⟨w.heap.size, n.toNat, 0, hm, rfl, .inr rfl, Nat.le_refl _, cells, e, (0, 0), hb, by rw [hcs]; omega⟩
theorem z1iz {w : World} {c : Cx} {m : Nat} {cs : List PV} {tl : Tail} {v : Value} (h : VR w c (.tr m cs tl) v) : ∃ ad cap, v = .slice ad m cap := by
 simp only [VR] at h
 rcases h with ⟨h1, h2, _⟩ | ⟨ad, cap, h1, _⟩
 · exact ⟨none, 0, by rw [h1, h2]⟩
 · exact ⟨_, _, h1⟩
theorem z19m {w : World} {c : Cx} {b off m sz : Nat} {v : Value} (h : VR w c (.sl b off m sz) v) : ∃ ad cap, v = .slice ad m cap := by
 simp only [VR] at h
 rcases h with ⟨⟨ad, h1⟩, h2⟩ | ⟨k, cap, off', _, h1, _⟩
 · exact ⟨ad, 0, by rw [h1, h2]⟩
 · exact ⟨_, _, h1⟩
theorem z1l3 {P : Program} {o : Oper} {σ : AS} {t t2 e : TypeId} {x y : Operand} {m sz nb : Nat} {news : List PV}
   (ho : o.op = .call { callee := .builtin .append, args := #[x, y], argTypes := #[t, t2] }) (ht : P.underlying t = some (.slice e)) (he : ElemT P e sz nb) (ht2 : srcTy P t2 = true)
   (hx : σ.eval x = .tr 0 [] .full) (hsrc : SrcOK P σ y m sz news) (hb : m * nb ≤ 2 ^ 47) : NewObj P o σ news e (fun b => .sl b 0 m sz) := by
 obtain ⟨hnl, hnlf, hsr⟩ := hsrc
 refine ⟨hnlf, fun w c a hr => ?_⟩
 obtain ⟨hlen, us, hus, husz, husv⟩ := hsr w c a hr
 have hv := hr.2.eval x
 rw [hx] at hv
 have hsl : ∃ ad, a.eval x = .slice ad 0 0 := by
   simp only [VR] at hv
   rcases hv with ⟨h1, _⟩ | ⟨ad, cap, h1, _, _, htl, _⟩
   · exact ⟨none, h1⟩
   · have : cap = 0 := htl
     exact ⟨_, by rw [h1, this]⟩
 obtain ⟨ad, hxe⟩ := hsl
 have run : ∀ {v w'}, (Builtin.append_ #[t, t2] o.type #[a.eval x, a.eval y]).run P w = .ok v w' → (execOp a.eval o).run P w = .ok (.value v) w' := fun {v w'} hrun => zal ho (by
   simp only [List.map_toArray, List.map_cons, List.map_nil, builtin, Sem.run_bind, hrun, Result.andThen_ok]; rfl)
 by_cases hm : m = 0
 · subst hm
   have hn0 : news = [] := List.eq_nil_of_length_eq_zero (by rw [hnl]; simp)
   subst hn0
   have hrun := zj3 (P := P) (w := w) (t := t) (t2 := t2) (b := ad) (len := 0) (cap := 0) ht he.size ht2 hlen (hus w.drawn) (by rw [husz]; simp) (Nat.le_refl _) o.type
   rw [← hxe] at hrun
   refine ⟨_, w.drawn, .inr ⟨rfl, run hrun, fun w' c' b _ => ?_⟩⟩
   rw [hxe]; simp only [VR]; exact .inl ⟨⟨_, rfl⟩, trivial⟩
 · obtain ⟨us0, g1, g2⟩ := z13r (P := P) (w := w) sz ad
   obtain ⟨rest, ncap, hn1, hn2, hrun⟩ := zpy (P := P) (t := t) (t2 := t2) (b := ad) (len := 0) (cap := 0) ht he ht2 hlen g1 hus (by omega) (by rw [Nat.zero_add]; exact hb) o.type
   rw [← hxe] at hrun
   have hu0 : us0 = #[] := Array.eq_empty_of_size_eq_zero g2
   subst hu0
   rw [Nat.zero_add] at hrun hn1 hn2
   have hall : (#[] ++ us ++ rest).size = ncap * sz := by
     rw [Array.size_append, Array.size_append, husz, hn2, Nat.sub_mul]
     have : m * sz ≤ ncap * sz := Nat.mul_le_mul_right _ hn1
     simp; omega
   refine ⟨_, w.drawn + 1, .inl ⟨_, (0, 0), run hrun, zf4 _, ?_, z2d fun i p hp => ?_, fun w' c' b hb' hm' => ?_⟩⟩
   · rw [hnl, hall]; exact Nat.mul_le_mul_right _ hn1
   · obtain ⟨u, hu, hr'⟩ := z0s husv hp
     refine ⟨u, ?_, hr'⟩
     have hlt := (Array.getElem?_eq_some_iff.1 hu).1
     show (#[] ++ us ++ rest)[i]? = some u
     rw [Array.empty_append, Array.getElem?_append_left hlt]; exact hu
   · simp only [VR]
     exact .inr ⟨w.heap.size, ncap, 0, hm', rfl, .inr rfl, hn1, _, e, (0, 0), hb', by rw [hall]; omega⟩
theorem z1nj {P : Program} {o : Oper} {σ : AS} {s t e : TypeId} {x : Operand} {b : ByteArray} (ho : o.op = .convert s t x) (hs : P.underlying s = some .string) (ht : P.underlying t = some (.slice e)) (he : P.underlying e = some (.int .u8))
   (hx : σ.eval x = .val (.string b)) : NewObj P o σ (b.data.toList.map fun c => .val (.int .u8 c.toNat)) e (fun i => .sl i 0 b.size 1) := by
 refine ⟨fun p hp => ?_, fun w c a hr => ?_⟩
 · simp at hp; obtain ⟨c, _, rfl⟩ := hp; rfl
 · have ex := z0r hr.2 hx
   have hrun := run_bytes_of_string (P := P) w s t e b hs ht he
   have hcap : b.size ≤ grownCap w b.size 0 e := by unfold grownCap; exact Nat.le_add_right _ _
   have hsz : (bytesRow b (grownCap w b.size 0 e)).size = grownCap w b.size 0 e := by
     have : b.data.size = b.size := rfl
     simp only [bytesRow, Array.size_append, Array.size_map, Array.size_replicate, this]; omega
   refine ⟨.slice (some ⟨w.heap.size, 0, none⟩) b.size (grownCap w b.size 0 e), w.drawn + 1, .inl ⟨bytesRow b (grownCap w b.size 0 e), ((bytesRow b (grownCap w b.size 0 e)).size, (bytesRow b (grownCap w b.size 0 e)).size + 1), ?_, .inr (Nat.le_refl _), ?_, z2d fun i p hp => ?_, fun w' c' i hb hm => ?_⟩⟩
   · simp only [execOp, ho, ex, Sem.run_bind, hrun, Result.andThen_ok, Sem.run_pure]; rfl
   · have : b.data.size = b.size := rfl
     rw [hsz]; simp [this]; exact hcap
   · rw [List.getElem?_map] at hp
     cases hc : b.data.toList[i]? with
     | none => rw [hc] at hp; cases hp
     | some c =>
       rw [hc] at hp; simp at hp; subst hp
       have hc' : b.data[i]? = some c := by simpa using hc
       have hlt := (Array.getElem?_eq_some_iff.1 hc').1
       refine ⟨.int .u8 c.toNat, ?_, z4f rfl⟩
       simp only [bytesRow]
       rw [Array.getElem?_append_left (by simpa using hlt)]
       simp [hc']
   · simp only [VR]
     exact .inr ⟨w.heap.size, grownCap w b.size 0 e, 0, hm, rfl, .inr rfl, hcap, _, e, _, hb, by rw [hsz]; omega⟩
def isPtr : PV → Bool
 | .ptr _ _ | .fz _ => true
 | _ => false
theorem z1mn {w : World} {c : Cx} {p : PV} {v : Value} (h : isPtr p = true) (hv : VR w c p v) : ∃ a, v = .pointer (some a) := by
 cases p <;> first | (cases h; done) | skip
 · simp only [VR] at hv; obtain ⟨k, _, rfl⟩ := hv; exact ⟨_, rfl⟩
 · simp only [VR] at hv; obtain ⟨a, rfl, _⟩ := hv; exact ⟨_, rfl⟩
theorem z1md {P : Program} {w : World} {t e : TypeId} {a b : Option Addr} (ht : P.underlying t = some (.pointer e)) (h : a = none ∨ b = none) : (Op.equal t (.pointer a) (.pointer b)).run P w = .ok (a.isNone && b.isNone) w := by
 show (Op.equalIn (9999 + 1) t _ _).run P w = _
 unfold Op.equalIn
 rw [Sem.run_bind, run_underlying ht]
 cases a <;> cases b <;> first | rfl | (rcases h with h | h <;> cases h)
theorem z1jl {P : Program} {o : Oper} {σ : AS} {t yt e : TypeId} {x y : Operand} {op : BinOp} {p q : PV} {r : Bool} (ho : o.op = .binOp op t x y yt) (hop : op = .eql ∨ op = .neq) (ht : P.underlying t = some (.pointer e)) (hx : σ.eval x = p) (hy : σ.eval y = q)
   (hr : (isPtr p = true ∧ q = .val (.pointer none) ∧ r = false) ∨ (p = .val (.pointer none) ∧ isPtr q = true ∧ r = false) ∨ (p = .val (.pointer none) ∧ q = .val (.pointer none) ∧ r = true)) :
   QStep P o σ (.val (.bool (match op with | .neq => !r | _ => r))) :=
 q_run fun w c act hrel => by
   have hvx := hrel.2.eval x
   have hvy := hrel.2.eval y
   rw [hx] at hvx; rw [hy] at hvy
   have key : ∃ a b, act.eval x = .pointer a ∧ act.eval y = .pointer b ∧ (a = none ∨ b = none) ∧ (a.isNone && b.isNone) = r := by
     rcases hr with ⟨h1, rfl, rfl⟩ | ⟨rfl, h1, rfl⟩ | ⟨rfl, rfl, rfl⟩
     · obtain ⟨a, ha⟩ := z1mn h1 hvx
       rw [zb0] at hvy
       exact ⟨some a, none, ha, hvy.1, .inr rfl, rfl⟩
     · obtain ⟨a, ha⟩ := z1mn h1 hvy
       rw [zb0] at hvx
       exact ⟨none, some a, hvx.1, ha, .inl rfl, rfl⟩
     · rw [zb0] at hvx hvy
       exact ⟨none, none, hvx.1, hvy.1, .inl rfl, rfl⟩
   obtain ⟨a, b, e1, e2, h1, h2⟩ := key
   have he := z1md (P := P) (w := w) ht h1
   rw [h2] at he
   refine ⟨.bool (match op with | .neq => !r | _ => r), ?_, z4f rfl⟩
   rcases hop with rfl | rfl
   · simp only [execOp, ho, e1, e2, Sem.run_bind, z6x (P := P) (w := w) (op := .eql) (t := t) (x := x) (y := y) (a := .pointer a) (b := .pointer b) (by simp) (by simp), Result.andThen_ok]
     rw [show binOp .eql t (.pointer a) (.pointer b) = (do pure (.bool (← Op.equal t (.pointer a) (.pointer b)))) from rfl, Sem.run_bind, he]; rfl
   · simp only [execOp, ho, e1, e2, Sem.run_bind, z6x (P := P) (w := w) (op := .neq) (t := t) (x := x) (y := y) (a := .pointer a) (b := .pointer b) (by simp) (by simp), Result.andThen_ok]
     rw [show binOp .neq t (.pointer a) (.pointer b) = (do pure (.bool (!(← Op.equal t (.pointer a) (.pointer b))))) from rfl, Sem.run_bind, he]; rfl
theorem z1dc : ∀ (l : List Int) (r : ByteArray), l.foldl (fun r n => r.push (UInt8.ofNat n.toNat)) r = ⟨r.data ++ (l.map fun n => UInt8.ofNat n.toNat).toArray⟩
 | [], r => by simp
 | n :: l, r => by
   simp only [List.foldl_cons]
   rw [z1dc l]
   simp [ByteArray.push]
theorem z1sh {P : Program} {o : Oper} {σ : AS} {s t e : TypeId} {x : Operand} {l : List Int} (ho : o.op = .convert s t x) (hs : P.underlying s = some (.slice e)) (he : P.underlying e = some (.int .u8)) (ht : P.underlying t = some .string)
   (hx : SrcN P σ x l.length 1 (l.map fun n => .val (.int .u8 n))) (hsl : ∀ w c (a : Act), RelC w c σ a → ∃ ad cap, a.eval x = .slice ad l.length cap) :
   QStep P o σ (.val (.string ⟨(l.map fun n => UInt8.ofNat n.toNat).toArray⟩)) :=
 q_run fun w c a hr => by
   obtain ⟨hn, _, h⟩ := hx
   obtain ⟨_, h2⟩ := h w c a hr
   obtain ⟨us, h3, h4, h5⟩ := h2 l.length (Nat.le_refl _)
   obtain ⟨ad, cap, hxe⟩ := hsl w c a hr
   have h3 := h3 w.drawn
   rw [hxe] at h3
   refine ⟨.string ⟨(l.map fun n => UInt8.ofNat n.toNat).toArray⟩, ?_, z4f rfl⟩
   have hconv : (convert s t (a.eval x)).run P w = .ok (.string ⟨(l.map fun n => UInt8.ofNat n.toNat).toArray⟩) w := by
     rw [hxe, run_convert_bytes_string w s t e ad _ cap hs he ht]
     cases ad with
     | none =>
       have hus : us = #[] := by
         have : (Builtin.firstCells 1 l.length (.slice none l.length cap)).run P w = .ok #[] w := rfl
         rw [this] at h3; cases h3; rfl
       have hl0 : l = [] := by rw [hus] at h4; exact List.length_eq_zero_iff.1 (by simpa using h4.symm)
       subst hl0
       rfl
     | some ad =>
       have hload : (loadCells ad l.length).run P w = .ok us w := by
         have : (Builtin.firstCells 1 l.length (.slice (some ad) l.length cap)).run P w = (loadCells ad (l.length * 1)).run P w := rfl
         rw [this, Nat.mul_one] at h3; exact h3
       have hus : us = (l.map (Value.int .u8)).toArray := by
         apply Array.ext'
         apply List.ext_getElem?
         intro i
         rw [List.toList_toArray, List.getElem?_map, Array.getElem?_toList]
         cases hi : l[i]? with
         | none =>
           have : us[i]? = none := by
             rw [Array.getElem?_eq_none]
             have := List.getElem?_eq_none_iff.1 hi
             omega
           rw [this]; rfl
         | some n =>
           rw [List.take_of_length_le (by simp)] at h5
           obtain ⟨v, hv, hr'⟩ := z0s h5 (i := i) (p := .val (.int .u8 n)) (by rw [List.getElem?_map, hi]; rfl)
           rw [hv]
           rw [zb0] at hr'
           rw [hr'.1]; rfl
       rw [run_bytesToString w ad l.length cap l (by rw [hload, hus]), z1dc]
       have he0 : ByteArray.empty.data = #[] := rfl
       rw [he0]
       simp
   simp only [execOp, ho, Sem.run_bind, hconv, Result.andThen_ok, Sem.run_pure]
theorem zsf {P : Program} {w : World} {c : Cx} {σ : AS} {a : Act} (hr : RelC w c σ a) {lo : Option Operand} {hi mx : Operand} {b : Bool} {len cap l h m : Nat} (hl : z1k σ lo 0 l) (hh : z1k σ (some hi) len h) (hm : z1k σ (some mx) cap m) (h1 : l ≤ h) (h2 : h ≤ m) (h3 : m ≤ cap) :
   (Instr.sliceBounds b len cap (lo.map a.eval) (some (a.eval hi)) (some (a.eval mx))).run P w = .ok (l, h, m) w := by
 unfold Instr.sliceBounds
 obtain ⟨k', i', e', h0', rfl⟩ := hh
 obtain ⟨k2, i2, e2, h02, rfl⟩ := hm
 have ev' := z0r hr.2 e'
 have ev2 := z0r hr.2 e2
 cases lo with
 | none =>
   simp only [z1k] at hl; subst hl
   simp [ev', ev2, zf3 h02 h3, zf3 h0' h2]
 | some y =>
   obtain ⟨k, i, e, h0, rfl⟩ := hl
   have ev := z0r hr.2 e
   simp [ev, ev', ev2, zf3 h02 h3, zf3 h0' h2, zf3 h0 h1]
theorem z1ku {P : Program} {o : Oper} {σ : AS} {t e : TypeId} {x : Operand} {lo : Option Operand} {hi mx : Operand} {len sz l h : Nat} {cs : List PV} {tl : Tail} (ho : o.op = .slice t x lo (some hi) (some mx)) (ht : P.underlying t = some (.slice e)) (hs : tySz P e = some sz)
   (hx : σ.eval x = .tr len cs tl) (hcs : cs.length = len * sz) (hl : z1k σ lo 0 l) (hh : z1k σ (some hi) len h) (hm : z1k σ (some mx) len h) (h1 : l ≤ h) (h2 : h ≤ len) : QStep P o σ (.tr (h - l) ((cs.drop (l * sz)).take ((h - l) * sz)) .full) :=
 q_run fun w c a hr => by
   have hv := hr.2.eval x
   rw [hx] at hv
   simp only [VR] at hv
   rcases hv with ⟨hxe, hl0, hc0, hnt⟩ | ⟨ad, cap, hxe, hcap, hft, htail, hlf, hcells⟩
   · subst hl0; subst hc0
     have e1 : h = 0 := by omega
     have e2 : l = 0 := by omega
     subst e1; subst e2
     refine ⟨.slice none 0 0, ?_, ?_⟩
     · simp only [execOp, ho, hxe, Instr.sliceAt, Instr.slice, Sem.run_bind, run_underlying ht, Result.andThen_ok, Option.map_some, zsf hr hl hh hm (Nat.le_refl 0) (Nat.le_refl 0) (Nat.le_refl 0), run_sizeOf hs]
       rfl
     · simp only [VR]; exact .inl ⟨by simp, by simp, by simp, rfl⟩
   · have hm' : z1k σ (some mx) cap h := hm
     refine ⟨.slice (if h = l then some ad else (some ad).map (·.add (l * sz))) (h - l) (h - l), ?_, ?_⟩
     · simp only [execOp, ho, hxe, Instr.sliceAt, Instr.slice, Sem.run_bind, run_underlying ht, Result.andThen_ok, Option.map_some, zsf hr hl hh hm' h1 (Nat.le_refl _) (show h ≤ cap by omega), run_sizeOf hs]
       rfl
     · by_cases hcl : h = l
       · simp only [VR]
         rw [if_pos hcl]
         refine .inr ⟨ad, h - l, rfl, Nat.le_refl _, .inl (by simp [hcl]), rfl, ?_, ?_⟩
         · intro q hq; simp [hcl] at hq
         · rw [hcl, Nat.sub_self, Nat.zero_mul, List.take_zero]; simp only [VRs]
       · rw [if_neg hcl]
         have hmul : l * sz + (h - l) * sz ≤ len * sz := by rw [← Nat.add_mul]; exact Nat.mul_le_mul_right _ (by omega)
         have hfz := zq6 hr.1 hft hlf hcells (l * sz)
         simp only [VR] at hfz
         obtain ⟨a', e1, f1, f2, f3⟩ := hfz
         simp only [Value.pointer.injEq, Option.some.injEq] at e1
         subst e1
         simp only [VR, Option.map_some]
         refine .inr ⟨ad.add (l * sz), h - l, rfl, Nat.le_refl _, ?_, rfl, fun q hq => f2 q (List.mem_of_mem_take hq), z14t f3 _⟩
         have := hft.le hr.1 (m := (h - l) * sz) (l * sz) (by omega)
         have hlen : ((cs.drop (l * sz)).take ((h - l) * sz)).length = (h - l) * sz := by simp; omega
         rw [hlen]; exact this
theorem z1kh {P : Program} {o : Oper} {σ : AS} {t e : TypeId} {x : Operand} {lo : Option Operand} {hi mx : Operand} {b off len sz l h : Nat} (ho : o.op = .slice t x lo (some hi) (some mx)) (ht : P.underlying t = some (.slice e)) (hs : tySz P e = some sz) (hz : sz ≠ 0)
   (hx : σ.eval x = .sl b off len sz) (hl : z1k σ lo 0 l) (hh : z1k σ (some hi) len h) (hm : z1k σ (some mx) len h) (h1 : l ≤ h) (h2 : h ≤ len) : QStep P o σ (.sl b (off + l * sz) (h - l) sz) :=
 q_run fun w c a hr => by
   have hv := hr.2.eval x
   rw [hx] at hv
   simp only [VR] at hv
   rcases hv with ⟨⟨ad, hxe⟩, hl0⟩ | ⟨k, cap, off', hk, hxe, h0, hcap, vs, el, fr, h4, h5⟩
   · subst hl0
     have e1 : h = 0 := by omega
     have e2 : l = 0 := by omega
     subst e1; subst e2
     refine ⟨.slice (if True then ad else Option.map (fun x => x.add (0 * sz)) ad) 0 0, ?_, ?_⟩
     · simp only [execOp, ho, hxe, Instr.sliceAt, Instr.slice, Sem.run_bind, run_underlying ht, Result.andThen_ok, Option.map_some, zsf hr hl hh hm (Nat.le_refl 0) (Nat.le_refl 0) (Nat.le_refl 0), run_sizeOf hs]
       rfl
     · simp only [VR]; exact .inl ⟨⟨_, rfl⟩, by simp⟩
   · have hm' : z1k σ (some mx) cap h := hm
     refine ⟨.slice (if h = l then some ⟨k, off', none⟩ else (some (⟨k, off', none⟩ : Addr)).map (·.add (l * sz))) (h - l) (h - l), ?_, ?_⟩
     · simp only [execOp, ho, hxe, Instr.sliceAt, Instr.slice, Sem.run_bind, run_underlying ht, Result.andThen_ok, Option.map_some, zsf hr hl hh hm' h1 (Nat.le_refl _) (show h ≤ cap by omega), run_sizeOf hs]
       rfl
     · simp only [VR]
       by_cases hcl : h = l
       · rw [if_pos hcl]
         refine .inr ⟨k, h - l, off', hk, rfl, ?_, Nat.le_refl _, vs, el, fr, h4, ?_⟩
         · by_cases hlz : l = 0
           · subst hlz
             rcases h0 with ⟨h6, h7⟩ | h6
             · exact .inl ⟨by omega, by omega⟩
             · exact .inr (by omega)
           · have : 0 < l * sz := Nat.mul_pos (by omega) (by omega)
             exact .inl ⟨by omega, by omega⟩
         · rw [hcl, Nat.sub_self, Nat.zero_mul]; omega
       · rw [if_neg hcl]
         simp only [Option.map_some, z7d]
         have hm2 : l * sz + (h - l) * sz = h * sz := by rw [← Nat.add_mul]; congr 1; omega
         have hm3 : h * sz ≤ cap * sz := Nat.mul_le_mul_right _ (by omega)
         refine .inr ⟨k, h - l, off' + l * sz, hk, rfl, ?_, Nat.le_refl _, vs, el, fr, h4, by omega⟩
         rcases h0 with ⟨h6, h7⟩ | h6
         · exact .inl ⟨by omega, by omega⟩
         · exact .inr (by omega)
end Go.Ab
set_option linter.unusedSimpArgs false
set_option linter.unusedVariables false
namespace Go.Ab
def memN : List Nat → Nat → Bool
 | [], _ => false
 | a :: l, b => Nat.beq a b || memN l b
theorem z1b7 : ∀ {l : List Nat} {b : Nat}, memN l b = true ↔ b ∈ l
 | [], b => by simp [memN]
 | a :: l, b => by
   simp only [memN, Bool.or_eq_true, z1b7 (l := l), List.mem_cons]
   exact ⟨fun h => h.elim (fun e => .inl (Nat.eq_of_beq_eq_true e).symm) .inr, fun h => h.elim (fun e => .inl (by rw [e]; exact Nat.beq_refl _)) .inr⟩
theorem z1rz {P : Program} {o : Oper} {σ : AS} {t : TypeId} {x : Operand} {p : PV} (ho : o.op = .box t x) (hx : σ.eval x = p) (hs : stor p = true) (hl : Leafs (cellsOf p)) : NewObj P o σ (cellsOf p) t (fun b => .ptr b 0) := by
 refine ⟨hl, fun w c a hr => ?_⟩
 have hv := hr.2.eval x
 rw [hx] at hv
 obtain ⟨h1, h2, h3⟩ := zza hs hv
 refine ⟨.pointer (some ⟨w.heap.size, 0, none⟩), w.drawn, .inl ⟨(a.eval x).cells, (0, 0), ?_, zf4 _, Nat.le_of_eq h1.symm, h3, fun w' c' b _ hm => by simp only [VR]; exact ⟨w.heap.size, hm, rfl⟩⟩⟩
 simp only [execOp, ho, Instr.box, newVar, newRow, Sem.run_bind, run_newObj, Result.andThen_ok, Sem.run_pure]; rfl
theorem z1ml {P : Program} {o : Oper} {σ : AS} {t : TypeId} {z cs : List PV} (ho : o.op = .alloc t) (hz : z9t P t = some z) (hn : z.length = cs.length) (hl : Leafs cs) (hc : ∀ w c (f : Nat → Option Value), (∃ H ts, Good w c H ts) → VRs w c z f → VRs w c cs f) : NewObj P o σ cs t (fun b => .ptr b 0) := by
 refine ⟨hl, fun w c a hr => ?_⟩
 obtain ⟨zv, h1, h2, h3⟩ := zb5 (w := w) hz
 refine ⟨.pointer (some ⟨w.heap.size, 0, none⟩), w.drawn, .inl ⟨zv.cells, (0, 0), ?_, zf4 _, by rw [← hn]; exact Nat.le_of_eq h2.symm, hc w c _ ⟨_, _, hr.1⟩ (h3 c), fun w' c' b _ hm => by simp only [VR]; exact ⟨w.heap.size, hm, rfl⟩⟩⟩
 simp only [execOp, ho, Instr.alloc, newVar, newRow, Sem.run_bind, h1, run_newObj, Result.andThen_ok, Sem.run_pure]; rfl
theorem z1ra {w : World} {c : Cx} {H : List AObj} {ts : List Bool} (g : Good w c H ts) {b : Nat} (hb : H[b]? = some .gone) (e : TypeId) : Good w c (H.set b (.row [] e)) ts ∧ c.m[b]? = some none := by
 have hbn : c.m[b]? = some none := g.obj b _ hb
 refine ⟨{ g with len := by simpa using g.len, obj := fun i o h => ?_ }, hbn⟩
 by_cases hi : b = i
 · subst hi
   rw [List.getElem?_set_self (List.getElem?_eq_some_iff.1 hb).1] at h
   cases h
   exact .inl ⟨rfl, hbn⟩
 · rw [List.getElem?_set_ne hi] at h
   exact g.obj i o h
def StoreStep (P : Program) (o : Oper) (σ : AS) (b : Nat) (cs : List PV) (e : TypeId) : Prop :=
 ∀ c a w (K : Act → World → Prop) Q, RelC w c σ a → (∀ w', Good w' c (σ.H.set b (.row cs e)) σ.ts → Ext w c w' c → K (a.put o.dst undef) w') → o.wp P a w K Q
theorem z1qj {P : Program} {o : Oper} {σ : AS} {t e : TypeId} {x y : Operand} {b off n : Nat} {cs : List PV} {p : PV} (ho : o.op = .store t x y)
   (hn : tySz P t = some n) (hx : σ.eval x = .ptr b off) (hy : σ.eval y = p) (hs : stor p = true) (hl : (cellsOf p).length = n) (hb : σ.H[b]? = some (.row cs e))
   (hlen : off + n ≤ cs.length) : StoreStep P o σ b (splice cs off (cellsOf p)) e := by
 intro c a w K Q hr hK
 have hv := hr.2.eval y
 rw [hy] at hv
 obtain ⟨h1, h2, h3⟩ := zza hs hv
 have hpx := hr.2.eval x
 rw [hx] at hpx
 simp only [VR] at hpx
 obtain ⟨k, hk, ex⟩ := hpx
 obtain ⟨w', hw', g, ext⟩ := zet (P := P) (a.eval y).cells.toList (cellsOf p) (off := off) (i := 0) hr.1 hb hk (by simpa using h1) (by rw [hl]; simpa using hlen) h2 (by simpa using h3)
 refine z1qh (w' := w') ?_ (hK w' (by simpa using g) ext)
 simp only [execOp, ho, Instr.storeAt, ex, Instr.sureAddr, Sem.run_bind, Sem.run_pure, Result.andThen_ok, storeVar, run_sizeOf hn]
 rw [if_neg (by rw [h1, hl]; simp)]
 rw [hw']; rfl
namespace D
def setAll (us : List (Nat × List PV × TypeId)) (H : List AObj) : List AObj := us.foldl (fun H u => H.set u.1 (.row u.2.1 u.2.2)) H
def z1oj (P : Program) (o : Oper) (σ : AS) (p : PV) (us : List (Nat × List PV × TypeId)) : Prop :=
 ∀ c a w (K : Act → World → Prop) Q, RelC w c σ a → (∀ v c' w', VR w' c' p v ∨ o.dst = none → Good w' c' (setAll us σ.H) σ.ts → Ext w c w' c' → K (a.put o.dst v) w') → o.wp P a w K Q
theorem setAll_len : ∀ (us : List (Nat × List PV × TypeId)) (H : List AObj), (setAll us H).length = H.length
 | [], _ => rfl
 | u :: us, H => by
   show (setAll us (H.set u.1 _)).length = _
   rw [setAll_len us]; simp
theorem setAll_ne : ∀ (us : List (Nat × List PV × TypeId)) {H : List AObj} {b : Nat}, b ∉ us.map (·.1) → (setAll us H)[b]? = H[b]?
 | [], _, _, _ => rfl
 | u :: us, H, b, h => by
   simp only [List.map_cons, List.mem_cons, not_or] at h
   show (setAll us (H.set u.1 _))[b]? = _
   rw [setAll_ne us h.2, List.getElem?_set_ne (fun e => h.1 e.symm)]
theorem z14e : ∀ (us : List (Nat × List PV × TypeId)) {H H' : List AObj} {b : Nat}, H[b]? = H'[b]? → H.length = H'.length → (setAll us H)[b]? = (setAll us H')[b]?
 | [], _, _, _, h, _ => h
 | u :: us, H, H', b, h, hl => by
   show (setAll us (H.set u.1 _))[b]? = (setAll us (H'.set u.1 _))[b]?
   refine z14e us ?_ (by simp [hl])
   by_cases hb : u.1 = b
   · subst hb; simp only [List.getElem?_set, hl, if_true]
   · rw [List.getElem?_set_ne hb, List.getElem?_set_ne hb]; exact h
inductive Item where
 | q (p : PV) (L : List Nat)
 | al (pf : Nat → PV) (b : Nat) (cs : List PV) (e : TypeId) (L : List Nat)
 | ef (p : PV) (us : List (Nat × List PV × TypeId)) (L : List Nat)
def Item.pv : Item → PV
 | .q p _ => p
 | .al pf b _ _ _ => pf b
 | .ef p _ _ => p
def Item.wr : Item → List Nat
 | .q _ _ => []
 | .al _ b _ _ _ => [b]
 | .ef _ us _ => us.map (·.1)
def Item.rd : Item → List Nat
 | .q _ L => L
 | .al _ b _ _ L => b :: L
 | .ef _ us L => us.map (·.1) ++ L
def Item.upd (H : List AObj) : Item → List AObj
 | .q _ _ => H
 | .al _ b cs e _ => H.set b (.row cs e)
 | .ef _ us _ => setAll us H
theorem wr_rd {it : Item} {b : Nat} (h : b ∈ it.wr) : b ∈ it.rd := by
 cases it with
 | q p L => cases h
 | al pf b' cs e L => simp only [Item.wr, List.mem_singleton] at h; subst h; simp [Item.rd]
 | ef p us L => exact List.mem_append_left _ h
theorem z1dy (H : List AObj) (it : Item) : (it.upd H).length = H.length := by cases it <;> simp [Item.upd, setAll_len]
theorem z1hs {H : List AObj} {it : Item} {b : Nat} (h : b ∉ it.wr) : (it.upd H)[b]? = H[b]? := by
 cases it with
 | q p L => rfl
 | al pf b' cs e L => exact List.getElem?_set_ne (fun e => h (by rw [← e]; simp [Item.wr]))
 | ef p us L => exact setAll_ne us h
theorem z1kd {H H' : List AObj} {it : Item} {b : Nat} (h : H[b]? = H'[b]?) (hl : H.length = H'.length) : (it.upd H)[b]? = (it.upd H')[b]? := by
 cases it with
 | q p L => exact h
 | al pf b' cs e L => exact z14e [(b', cs, e)] h hl
 | ef p us L => exact z14e us h hl
def heapAt (f : Nat → Bool) : List Item → Nat → List AObj → List AObj
 | [], _, H => H
 | it :: r, j, H => heapAt f r (j + 1) (bif f j then it.upd H else H)
theorem z1cu (f : Nat → Bool) : ∀ (l : List Item) (j : Nat) (H : List AObj), (heapAt f l j H).length = H.length
 | [], _, _ => rfl
 | it :: r, j, H => by
   simp only [heapAt, z1cu f r]
   cases f j <;> simp [z1dy]
theorem zvg {f g : Nat → Bool} {b : Nat} : ∀ (l : List Item) (j : Nat) {H H' : List AObj}, H[b]? = H'[b]? → H.length = H'.length → (∀ (k : Nat) it, l[k]? = some it → b ∈ it.wr → f (j + k) = g (j + k)) → (heapAt f l j H)[b]? = (heapAt g l j H')[b]?
 | [], _, _, _, h, _, _ => h
 | it :: r, j, H, H', h, hl, hw => by
   simp only [heapAt]
   refine zvg r (j + 1) ?_ (by cases f j <;> cases g j <;> simp [z1dy, hl]) fun k it' hk hb => by
     have := hw (k + 1) it' (by simpa using hk) hb
     rw [Nat.add_assoc, Nat.add_comm 1 k]; exact this
   by_cases hb : b ∈ it.wr
   · have h0 := hw 0 it rfl hb
     rw [Nat.add_zero] at h0
     rw [h0]
     cases g j with
     | false => exact h
     | true => exact z1kd h hl
   · have e1 : ∀ (c : Bool) (X : List AObj), (bif c then it.upd X else X)[b]? = X[b]? := fun c X => by
       cases c with
       | false => rfl
       | true => exact z1hs hb
     rw [e1, e1]; exact h
theorem z1dm {f : Nat → Bool} : ∀ (l : List Item) (j i : Nat) {it : Item} {H : List AObj}, l[i]? = some it → f (j + i) = false → (∀ (k : Nat) it' b, i < k → l[k]? = some it' → b ∈ it.wr → b ∈ it'.wr → f (j + k) = false) →
   heapAt (fun k => f k || Nat.beq k (j + i)) l j H = it.upd (heapAt f l j H)
 | [], _, _, _, _, h, _, _ => by simp at h
 | it0 :: r, j, 0, it, H, h, hf, hlate => by
   simp only [List.getElem?_cons_zero, Option.some.injEq] at h
   subst h
   simp only [Nat.add_zero] at hf
   simp only [heapAt, Nat.add_zero, hf, Nat.beq_refl, Bool.or_true, cond_true, cond_false, Bool.false_or]
   apply List.ext_getElem?
   intro b
   have hrest : ∀ k : Nat, Nat.beq (j + 1 + k) j = false := fun k => by
     cases hb : Nat.beq (j + 1 + k) j with
     | false => rfl
     | true => have := Nat.eq_of_beq_eq_true hb; omega
   by_cases hb : b ∈ it0.wr
   · -- nobody behind it writes there
     have e1 : ∀ (g : Nat → Bool) (X : List AObj), (∀ (k : Nat) it', r[k]? = some it' → b ∈ it'.wr → g (j + 1 + k) = false) → (heapAt g r (j + 1) X)[b]? = X[b]? := by
       intro g X hg
       have := zvg (f := g) (g := fun _ => false) r (j + 1) (H := X) (H' := X) (b := b) rfl rfl (fun k it' hk hw => hg k it' hk hw)
       rw [this]
       have none : ∀ (l : List Item) (j : Nat) (X : List AObj), heapAt (fun _ => false) l j X = X := by
         intro l
         induction l with
         | nil => intro j X; rfl
         | cons a l ih => intro j X; simp only [heapAt, cond_false]; exact ih _ _
       rw [none]
     have hk0 : ∀ (k : Nat) it', r[k]? = some it' → b ∈ it'.wr → f (j + 1 + k) = false := fun k it' hk hw => by
       have := hlate (k + 1) it' b (by omega) (by simpa using hk) hb hw
       rw [Nat.add_assoc, Nat.add_comm 1 k]; exact this
     rw [e1 _ _ (fun k it' hk hw => by rw [hk0 k it' hk hw, hrest k]; rfl)]
     exact z1kd (e1 f H (fun k it' hk hw => hk0 k it' hk hw)).symm (z1cu _ _ _ _).symm
   · rw [z1hs hb]
     refine zvg r (j + 1) (z1hs hb) (z1dy _ _) fun k it' hk hw => ?_
     rw [hrest k, Bool.or_false]
 | it0 :: r, j, i + 1, it, H, h, hf, hlate => by
   have hne : Nat.beq j (j + (i + 1)) = false := by
     cases hb : Nat.beq j (j + (i + 1)) with
     | false => rfl
     | true => have := Nat.eq_of_beq_eq_true hb; omega
   simp only [heapAt, hne, Bool.or_false]
   have := z1dm r (j + 1) i (it := it) (f := f) (H := bif f j then it0.upd H else H) (by simpa using h) (by rw [Nat.add_assoc, Nat.add_comm 1 i]; exact hf) (fun k it' b hk hit h1 h2 => by
     have := hlate (k + 1) it' b (by omega) (by simpa using hit) h1 h2
     rw [Nat.add_assoc, Nat.add_comm 1 k]; exact this)
   rw [Nat.add_assoc, Nat.add_comm 1 i] at this
   exact this
def heapTo : List Item → List AObj → List AObj
 | [], H => H
 | it :: r, H => heapTo r (it.upd H)
theorem z1fy : ∀ (l : List Item) (j : Nat) (H : List AObj) (f : Nat → Bool), (∀ k, k < l.length → f (j + k) = true) → heapAt f l j H = heapTo l H
 | [], _, _, _, _ => rfl
 | it :: r, j, H, f, hf => by
   have h0 := hf 0 (by simp)
   rw [Nat.add_zero] at h0
   simp only [heapAt, heapTo, h0, cond_true]
   exact z1fy r (j + 1) _ f fun k hk => by
     have := hf (k + 1) (by simpa using hk)
     rw [Nat.add_assoc, Nat.add_comm 1 k]; exact this
theorem heapTo_take : ∀ (l : List Item) (j m : Nat) (H : List AObj), heapTo (l.take m) H = heapAt (fun k => Nat.blt k (j + m)) l j H
 | [], _, _, _ => by simp [heapTo, heapAt]
 | it :: r, j, 0, H => by
   simp only [List.take_zero, heapTo, heapAt]
   have e : Nat.blt j (j + 0) = false := by
     cases hb : Nat.blt j (j + 0) with
     | false => rfl
     | true => have := Nat.blt_eq.mp hb; omega
   simp only [e, cond_false]
   have none : ∀ (l : List Item) (i : Nat), j < i → heapAt (fun k => Nat.blt k (j + 0)) l i H = H := by
     intro l
     induction l with
     | nil => intro i _; rfl
     | cons a l ih =>
       intro i hi
       have e : Nat.blt i (j + 0) = false := by
         cases hb : Nat.blt i (j + 0) with
         | false => rfl
         | true => have := Nat.blt_eq.mp hb; omega
       simp only [heapAt, e, cond_false]
       exact ih (i + 1) (by omega)
   exact (none r (j + 1) (by omega)).symm
 | it :: r, j, m + 1, H => by
   have e : Nat.blt j (j + (m + 1)) = true := Nat.blt_eq.mpr (by omega)
   simp only [List.take_succ_cons, heapTo, heapAt, e, cond_true]
   have := heapTo_take r (j + 1) m (it.upd H)
   rw [show j + 1 + m = j + (m + 1) by omega] at this
   exact this
def Does (P : Program) (ops : Array Oper) : List Oper → List Item → List AObj → AS → Prop
 | o :: os, it :: its, H, σ => (match it with
     | .q p L => ∃ g, z5g ops (σ.keep (o.looksAt ops)) o = some g ∧ (if g = true then ∀ H' : List AObj, (∀ b, b ∈ L → H'[b]? = H[b]?) → QStep P o { σ.keep (o.looksAt ops) with H := H' } p else p = .tup [])
     | .al pf b cs e L => H[b]? = some .gone ∧ z5g ops (σ.keep (o.looksAt ops)) o = some true ∧ ∀ H' : List AObj, (∀ b, b ∈ L → H'[b]? = H[b]?) → NewObj P o { σ.keep (o.looksAt ops) with H := H' } cs e pf
     | .ef p us L => z5g ops (σ.keep (o.looksAt ops)) o = some true ∧ ∀ H' : List AObj, (∀ b, b ∈ us.map (·.1) ++ L → H'[b]? = H[b]?) → z1oj P o { σ.keep (o.looksAt ops) with H := H' } p us) ∧
     Does P ops os its (it.upd H) (σ.put o.dst it.pv)
 | [], [], _, _ => True
 | _, _, _, _ => False
theorem z11w {P : Program} {ops : Array Oper} : ∀ {l : List Oper} {its : List Item} {H : List AObj} {σ : AS}, Does P ops l its H σ → l.length = its.length ∧
   ∀ (i : Nat) o it, l[i]? = some o → its[i]? = some it → (match it with
     | .q p L => ∃ g, z5g ops ((pre l (its.map Item.pv) σ i).keep (o.looksAt ops)) o = some g ∧ (if g = true then ∀ H' : List AObj, (∀ b, b ∈ L → H'[b]? = (heapTo (its.take i) H)[b]?) → QStep P o { (pre l (its.map Item.pv) σ i).keep (o.looksAt ops) with H := H' } p else p = .tup [])
     | .al pf b cs e L => (heapTo (its.take i) H)[b]? = some .gone ∧ z5g ops ((pre l (its.map Item.pv) σ i).keep (o.looksAt ops)) o = some true ∧ ∀ H' : List AObj, (∀ b, b ∈ L → H'[b]? = (heapTo (its.take i) H)[b]?) → NewObj P o { (pre l (its.map Item.pv) σ i).keep (o.looksAt ops) with H := H' } cs e pf
     | .ef p us L => z5g ops ((pre l (its.map Item.pv) σ i).keep (o.looksAt ops)) o = some true ∧ ∀ H' : List AObj, (∀ b, b ∈ us.map (·.1) ++ L → H'[b]? = (heapTo (its.take i) H)[b]?) → z1oj P o { (pre l (its.map Item.pv) σ i).keep (o.looksAt ops) with H := H' } p us)
 | [], [], _, _, _ => ⟨rfl, fun i o it h => by simp at h⟩
 | o :: os, it :: its, H, σ, h => by
   obtain ⟨h1, h2⟩ := h
   obtain ⟨hl, ih⟩ := z11w h2
   refine ⟨by simp [hl], fun i o' it' ho hp => ?_⟩
   cases i with
   | zero =>
     simp at ho hp; subst ho; subst hp
     cases it <;> exact h1
   | succ i =>
     have := ih i o' it' (by simpa using ho) (by simpa using hp)
     cases it' <;> simpa [pre, z4g, heapTo] using this
 | [], _ :: _, _, _, h => h.elim
 | _ :: _, [], _, _, h => h.elim
def meets : List Nat → List Nat → Bool
 | [], _ => false
 | x :: l, m => memN m x || meets l m
theorem z14p : ∀ {l m : List Nat} {b : Nat}, b ∈ l → b ∈ m → meets l m = true
 | x :: l, m, b, h, g => by
   simp only [meets, Bool.or_eq_true]
   rcases List.mem_cons.1 h with rfl | h
   · exact .inl (z1b7.2 g)
   · exact .inr (z14p h g)
def clash (a b : Item) : Bool := meets a.wr b.rd || meets b.wr a.rd
def confWith (ops : Array Oper) (it : Item) (j : Nat) : List Item → Nat → Bool
 | [], _ => true
 | jt :: r, k => (!(clash it jt) || bef ops k j) && confWith ops it j r (k + 1)
def confOk (ops : Array Oper) : List Item → Nat → Bool
 | [], _ => true
 | it :: r, j => confWith ops it j r (j + 1) && confOk ops r (j + 1)
theorem z14z {ops : Array Oper} {it : Item} {j : Nat} : ∀ {l : List Item} {k : Nat}, confWith ops it j l k = true → ∀ (i : Nat) jt, l[i]? = some jt → clash it jt = true → bef ops (k + i) j = true
 | [], _, _, i, jt, h, _ => by simp at h
 | a :: r, k, hc, i, jt, h, hcl => by
   simp only [confWith, Bool.and_eq_true] at hc
   cases i with
   | zero =>
     simp only [List.getElem?_cons_zero, Option.some.injEq] at h
     subst h
     have := hc.1
     rw [hcl] at this
     simpa using this
   | succ i =>
     have := z14z hc.2 i jt (by simpa using h) hcl
     rw [Nat.add_assoc, Nat.add_comm 1 i] at this; exact this
theorem z10d {ops : Array Oper} : ∀ {l : List Item} {j : Nat}, confOk ops l j = true → ∀ (i k : Nat) it jt, i < k → l[i]? = some it → l[k]? = some jt → clash it jt = true → bef ops (j + k) (j + i) = true
 | [], _, _, i, k, it, jt, _, h, _, _ => by simp at h
 | a :: r, j, hc, i, k, it, jt, hik, hi, hk, hcl => by
   simp only [confOk, Bool.and_eq_true] at hc
   cases k with
   | zero => omega
   | succ k =>
     cases i with
     | zero =>
       simp only [List.getElem?_cons_zero, Option.some.injEq] at hi
       subst hi
       have := z14z hc.1 k jt (by simpa using hk) hcl
       rw [Nat.add_assoc, Nat.add_comm 1 k] at this; exact this
     | succ i =>
       have := z10d hc.2 i k it jt (by omega) (by simpa using hi) (by simpa using hk) hcl
       rw [Nat.add_assoc, Nat.add_comm 1 k, Nat.add_assoc, Nat.add_comm 1 i] at this; exact this
def drawOkAt (ops : Array Oper) (lo hi : Nat) : Bool :=
 zdd ops &&
 (List.range ops.size).all fun j => Nat.blt j lo || Nat.ble hi j ||
   match ops[j]? with
   | none => true
   | some oj => (oj.dst.all fun d => !(oj.looksAt ops).contains d) &&
     (List.range j).all fun i => Nat.blt i lo ||
       match ops[i]? with
       | none => true
       | some oi => (oi.dst.isNone || oi.dst != oj.dst) && (oi.apart ops oj || bef ops j i)
theorem ztw {ops : Array Oper} {lo hi : Nat} (h : drawOkAt ops lo hi = true) : zdd ops = true ∧
   (∀ (j : Nat) o d, lo ≤ j → j < hi → ops[j]? = some o → o.dst = some d → d ∉ o.looksAt ops) ∧
   (∀ (i j : Nat) oi oj, lo ≤ i → i < j → j < hi → ops[i]? = some oi → ops[j]? = some oj → (∀ d, oi.dst = some d → oj.dst ≠ some d) ∧ (oi.apart ops oj = true ∨ bef ops j i = true)) := by
 simp only [drawOkAt, Bool.and_eq_true] at h
 obtain ⟨h1, h2⟩ := h
 have hj : ∀ (j : Nat) o, ops[j]? = some o → j < ops.size := fun j o ho => (Array.getElem?_eq_some_iff.1 ho).1
 have key : ∀ (j : Nat) o, lo ≤ j → j < hi → ops[j]? = some o → (o.dst.all fun d => !(o.looksAt ops).contains d) = true ∧
     ((List.range j).all fun i => Nat.blt i lo || match ops[i]? with | none => true | some oi => (oi.dst.isNone || oi.dst != o.dst) && (oi.apart ops o || bef ops j i)) = true := by
   intro j o hl hh ho
   have := List.all_eq_true.1 h2 j (by simp [hj j o ho])
   rw [ho] at this
   simp only [Bool.or_eq_true, Bool.and_eq_true] at this
   rcases this with (h | h) | h
   · exact absurd (Nat.blt_eq.mp h) (by omega)
   · exact absurd (Nat.le_of_ble_eq_true h) (by omega)
   · exact ⟨h.1, h.2⟩
 refine ⟨h1, fun j o d hl hh ho hd => ?_, fun i j oi oj hl hij hh hi hj' => ?_⟩
 · obtain ⟨hb, _⟩ := key j o hl hh ho
   rw [hd] at hb
   simpa using hb
 · obtain ⟨_, hc⟩ := key j oj (by omega) hh hj'
   have := List.all_eq_true.1 hc i (by simp [hij])
   rw [hi] at this
   simp only [Bool.or_eq_true, Bool.and_eq_true] at this
   rcases this with h | h
   · exact absurd (Nat.blt_eq.mp h) (by omega)
   · refine ⟨fun d hd => ?_, h.2⟩
     rcases h.1 with h | h
     · rw [hd] at h; cases h
     · rw [hd] at h
       intro e
       rw [e] at h
       simp at h
structure MidA (ops : Array Oper) (its : List Item) (σ : AS) (c : Cx) (lo hi : Nat) (listed : Array Bool) (a : Act) (w : World) : Prop where
 good : Good w c (heapAt (fun j => listed.getD j false) its lo σ.H) σ.ts
 size : a.tmps.size = σ.n
 sz : listed.size = ops.size
 old : ∀ t, t < σ.n → (∀ (j : Nat) o, lo ≤ j → listed.getD j false = true → ops[j]? = some o → o.dst ≠ some t) → VR w c (σ.get t) (a.tmps.getD t undef)
 new : ∀ (j : Nat) o it t, lo ≤ j → listed.getD j false = true → ops[j]? = some o → its[j - lo]? = some it → o.dst = some t → t < σ.n → VR w c it.pv (a.tmps.getD t undef)
 closed : zt3 ops listed
 ahead : ∀ j, j < lo → j < ops.size → listed.getD j false = true
 below : ∀ j, listed.getD j false = true → j < hi
def behind (l : List Oper) (its : List Item) (σ : AS) : AS := { z4g l (its.map Item.pv) σ with H := heapTo its σ.H }
theorem seg_draw {P : Program} {ops : Array Oper} {σ : AS} {lo hi : Nat} {Q' : Exit → Act → World → Prop} (its : List Item) (hok : drawOkAt ops lo hi = true) (hsep : sepOk ops lo hi = true) (hlh : lo ≤ hi) (hle : hi ≤ ops.size)
   (hdn : ∀ o, o ∈ seg ops lo hi → o.dst.all (fun d => decide (d < σ.n)) = true) (hcf : confOk ops its lo = true) (hq : Does P ops (seg ops lo hi) its σ.H σ) :
   ∀ (n fuel : Nat) (listed : Array Bool) (c : Cx) (a : Act) (w : World), left ops listed = n → n ≤ fuel → MidA ops its σ c lo hi listed a w →
     (∀ fuel listed' c' a' w', listed'.size = ops.size → (∀ j, j < ops.size → (listed'.getD j false = true ↔ j < hi)) → zt3 ops listed' → left ops listed' ≤ fuel → RelC w' c' (behind (seg ops lo hi) its σ) a' → Ext w c w' c' → a'.defers = a.defers →
       wpAny P .any ops Q' fuel listed' a' w') → wpAny P .any ops Q' fuel listed a w := by
 obtain ⟨hback, hdst, hpair⟩ := ztw hok
 obtain ⟨hlen0, hat⟩ := z11w hq
 have hlen : (seg ops lo hi).length = (its.map Item.pv).length := by rw [List.length_map]; exact hlen0
 have hsl : (seg ops lo hi).length = hi - lo := by simp [seg]; omega
 intro n
 induction n using Nat.strongRecOn with
 | _ n ih =>
   intro fuel listed c a w hn hf hmid hK
   by_cases hall : ∀ j, lo ≤ j → j < hi → listed.getD j false = true
   · -- the stretch is done
     refine hK fuel listed c a w hmid.sz (fun j hj => ⟨fun h => hmid.below j h, fun h => ?_⟩) hmid.closed (by omega) ⟨?_, ?_⟩ (Ext.refl _ _) rfl
     · by_cases hjl : j < lo
       · exact hmid.ahead j hjl hj
       · exact hall j (by omega) h
     · obtain ⟨h1, h2, h3⟩ := zaz (seg ops lo hi) (its.map Item.pv) σ
       simp only [behind, h3]
       rw [← z1fy its lo σ.H (fun j => listed.getD j false) fun i hi' => hall (lo + i) (by omega) (by rw [← hlen0, hsl] at hi'; omega)]
       exact hmid.good
     · obtain ⟨h1, h2, h3⟩ := zaz (seg ops lo hi) (its.map Item.pv) σ
       refine ⟨by simp only [behind, h1]; exact hmid.size, fun t p hl ht => ?_⟩
       simp only [behind] at hl ht
       rw [h1] at ht
       have hg : (z4g (seg ops lo hi) (its.map Item.pv) σ).get t = p := by
         simp only [AS.get, h1, Nat.blt_eq.mpr ht, cond_true, hl, Option.getD_some]
       have hts : t < a.tmps.size := by rw [hmid.size]; exact ht
       refine ⟨a.tmps[t], by simp [hts], ?_⟩
       have hgd : a.tmps.getD t undef = a.tmps[t] := by simp [Array.getD_eq_getD_getElem?, hts]
       rw [← hgd]
       rcases zhs (seg ops lo hi) (its.map Item.pv) σ t hlen ht with ⟨j, o, p', h4, h5, h6, h7⟩ | ⟨h4, h5⟩
       · rw [← hg, h7]
         have hjl : j < hi - lo := by rw [← hsl]; exact (List.getElem?_eq_some_iff.1 h4).1
         have ho : ops[lo + j]? = some o := by
           rw [← zek (hi := hi) (Nat.le_add_right lo j) (by omega), Nat.add_sub_cancel_left]; exact h4
         rw [List.getElem?_map] at h5
         cases hit : its[j]? with
         | none => rw [hit] at h5; cases h5
         | some it =>
           rw [hit] at h5; simp only [Option.map_some, Option.some.injEq] at h5; subst h5
           exact hmid.new (lo + j) o it t (by omega) (hall _ (by omega) (by omega)) ho (by rw [Nat.add_sub_cancel_left]; exact hit) h6 ht
       · rw [← hg, h5]
         refine hmid.old t ht (fun j o hjl hD ho => h4 (j - lo) o ?_)
         rw [zek hjl (hmid.below j hD)]; exact ho
   · -- something is left
     have hex : ∃ j, lo ≤ j ∧ j < hi ∧ listed.getD j false = false := by
       apply Classical.byContradiction
       intro hno
       apply hall
       intro j h1 h2
       cases h : listed.getD j false with
       | true => rfl
       | false => exact absurd ⟨j, h1, h2, h⟩ hno
     obtain ⟨j0, hj0, hj1, hj2⟩ := hex
     have hpos := z1ad (ops := ops) (listed := listed) (i := j0) (by omega) hj2
     cases fuel with
     | zero => omega
     | succ fuel =>
       refine ⟨fun hr => ?_, fun i hi' => ?_⟩
       · -- some one is ready
         exfalso
         have : ∀ j, j ≤ j0 → listed.getD j false = true := by
           intro j
           induction j using Nat.strongRecOn with
           | _ j ihj =>
             intro hj
             cases hl : listed.getD j false with
             | true => rfl
             | false =>
               have hjs : j < ops.size := by omega
               have : j ∈ Region.ready .any ops listed := by
                 rw [zle hmid.sz]
                 refine ⟨hl, ops[j], by simp [hjs], fun e he hb => ?_⟩
                 have hlt := zgc hback (o := ops[j]) (Array.getElem?_eq_getElem hjs) (Array.mem_toList_iff.2 he) hb
                 exact ihj e.on hlt (by omega)
               rw [hr] at this; cases this
         have := this j0 (Nat.le_refl _)
         rw [hj2] at this; cases this
       · rw [zle hmid.sz] at hi'
         obtain ⟨hnD, o, ho, hedges⟩ := hi'
         have hil : i < ops.size := (Array.getElem?_eq_some_iff.1 ho).1
         have hlo : lo ≤ i := by
           apply Classical.byContradiction
           intro h
           have := hmid.ahead i (by omega) hil
           rw [hnD] at this; cases this
         have hhi : i < hi := by
           apply Classical.byContradiction
           intro h
           have hb := z1bv hsep (i := j0) (j := i) (by omega) hil hj0 hj1
           have := zls hback hmid.sz hmid.closed ho hedges hb (by omega)
           rw [hj2] at this; cases this
         have hp : ∃ it, its[i - lo]? = some it := by
           have : i - lo < its.length := by rw [← hlen0, hsl]; omega
           exact ⟨its[i - lo], by simp [this]⟩
         obtain ⟨it, hit⟩ := hp
         have hati := hat (i - lo) o it (by rw [zek hlo hhi]; exact ho) hit
         have hmemo : o ∈ seg ops lo hi := List.mem_of_getElem? (i := i - lo) (by rw [zek hlo hhi]; exact ho)
         have hdlt : ∀ d, o.dst = some d → d < σ.n := fun d hdd => by
           have := hdn o hmemo
           rw [hdd] at this; simpa using this
         -- the slots that the operation looks at
         have hslo : SlotsR w c ((pre (seg ops lo hi) (its.map Item.pv) σ (i - lo)).keep (o.looksAt ops)) a.tmps := by
           obtain ⟨h1, h2, h3⟩ := zaz ((seg ops lo hi).take (i - lo)) ((its.map Item.pv).take (i - lo)) σ
           refine ⟨by simp only [AS.keep, pre, h1]; exact hmid.size, fun t q hl ht => ?_⟩
           simp only [AS.keep, pre, h1] at ht
           have hq' := zsq _ _ _ _ hl
           have hmem : t ∈ o.looksAt ops := by
             simp only [AS.keep] at hl
             clear hq' hat hq hK hmid hati hedges
             generalize o.looksAt ops = L at hl
             induction L with
             | nil => simp [look] at hl
             | cons s L ihL =>
               simp only [List.map_cons, look] at hl
               cases hb : Nat.beq s t with
               | true => rw [Nat.eq_of_beq_eq_true hb]; simp
               | false => rw [hb] at hl; simp [ihL (by simpa using hl)]
           have hts : t < a.tmps.size := by rw [hmid.size]; exact ht
           refine ⟨a.tmps[t], by simp [hts], ?_⟩
           have hgd : a.tmps.getD t undef = a.tmps[t] := by simp [Array.getD_eq_getD_getElem?, hts]
           rw [← hgd, ← hq']
           have hlen' : ((seg ops lo hi).take (i - lo)).length = ((its.map Item.pv).take (i - lo)).length := by simp only [List.length_take, hlen]
           rcases zhs ((seg ops lo hi).take (i - lo)) ((its.map Item.pv).take (i - lo)) σ t hlen' ht with ⟨j, oj, pj, h4, h5, h6, h7⟩ | ⟨h4, h5⟩
           · have hji : j < i - lo := by
               have := (List.getElem?_eq_some_iff.1 h4).1; simp at this; omega
             have hoj : ops[lo + j]? = some oj := by
               rw [List.getElem?_take, if_pos hji] at h4
               rw [← zek (hi := hi) (Nat.le_add_right lo j) (by omega), Nat.add_sub_cancel_left]; exact h4
             rw [List.getElem?_take, if_pos hji, List.getElem?_map] at h5
             cases hitj : its[j]? with
             | none => rw [hitj] at h5; cases h5
             | some itj =>
               rw [hitj] at h5; simp only [Option.map_some, Option.some.injEq] at h5; subst h5
               have : bef ops i (lo + j) = true := by
                 rcases (hpair (lo + j) i oj o (by omega) (by omega) hhi hoj ho).2 with hap | hb
                 · exact absurd hmem ((Oper.apart_spec hap).1 t h6)
                 · exact hb
               have hDj := zls hback hmid.sz hmid.closed ho hedges this (by omega)
               rw [show (pre (seg ops lo hi) (its.map Item.pv) σ (i - lo)).get t = itj.pv from h7]
               exact hmid.new (lo + j) oj itj t (by omega) hDj hoj (by rw [Nat.add_sub_cancel_left]; exact hitj) h6 ht
           · rw [show (pre (seg ops lo hi) (its.map Item.pv) σ (i - lo)).get t = σ.get t from h5]
             refine hmid.old t ht (fun j oj hjl hDj hoj he => ?_)
             have hjh := hmid.below j hDj
             by_cases hji : j < i
             · exact h4 (j - lo) oj (by rw [List.getElem?_take, if_pos (by omega), zek hjl hjh]; exact hoj) he
             · rcases Nat.lt_or_ge i j with hij | hij
               · rcases (hpair i j o oj hlo hij hjh ho hoj).2 with hap | hb
                 · exact absurd hmem ((Oper.apart_spec hap).2.2 t he)
                 · have := zlx hback (D := fun j => listed.getD j false = true) hmid.closed (fun j hj => zlj hmid.sz hj) j i hDj hb
                   rw [hnD] at this; cases this
               · have : j = i := by omega
                 subst this
                 rw [hnD] at hDj; cases hDj
         have hsi : i < listed.size := by rw [hmid.sz]; exact hil
         have hget : ∀ j, (listed.setIfInBounds i true).getD j false = true ↔ listed.getD j false = true ∨ j = i := fun j => zo6 hsi
         have hfun : (fun j => (listed.setIfInBounds i true).getD j false) = fun j => listed.getD j false || Nat.beq j i := by
           funext j
           rw [Bool.eq_iff_iff, hget, Bool.or_eq_true]
           exact ⟨fun h => h.imp id (fun e => by rw [e]; exact Nat.beq_refl _), fun h => h.imp id Nat.eq_of_beq_eq_true⟩
         have hli : lo + (i - lo) = i := by omega
         -- who clashes with the operation is done just if it stands ahead of it
         have hahead : ∀ (k : Nat) jt, its[k]? = some jt → k < i - lo → clash jt it = true → listed.getD (lo + k) false = true := fun k jt hk hki hcl => by
           have hb := z10d hcf k (i - lo) jt it hki hk hit hcl
           rw [hli] at hb
           exact zls hback hmid.sz hmid.closed ho hedges hb (by omega)
         have hbehind : ∀ (k : Nat) jt, its[k]? = some jt → i - lo < k → clash it jt = true → listed.getD (lo + k) false = false := fun k jt hk hki hcl => by
           have hb := z10d hcf (i - lo) k it jt hki hit hk hcl
           rw [hli] at hb
           cases hD : listed.getD (lo + k) false with
           | false => rfl
           | true =>
             have := zlx hback (D := fun j => listed.getD j false = true) hmid.closed (fun j hj => zlj hmid.sz hj) (lo + k) i hD hb
             rw [hnD] at this; cases this
         -- what it looks at is as in the text's order
         have hsame : ∀ b, b ∈ it.rd → (heapAt (fun j => listed.getD j false) its lo σ.H)[b]? = (heapTo (its.take (i - lo)) σ.H)[b]? := fun b hb => by
           rw [heapTo_take its lo]
           refine zvg its lo rfl rfl fun k jt hk hw => ?_
           have hcl1 : clash jt it = true := by
             simp only [clash, z14p hw hb, Bool.true_or]
           have hcl2 : clash it jt = true := by
             simp only [clash, z14p hw hb, Bool.or_true]
           rcases Nat.lt_trichotomy k (i - lo) with h | h | h
           · have hk := hahead k jt hk h hcl1
             show listed.getD (lo + k) false = _
             rw [hk]
             exact (Nat.blt_eq.mpr (by omega)).symm
           · subst h
             simp only [hli, hnD]
             cases hb2 : Nat.blt i i with
             | false => rfl
             | true => have := Nat.blt_eq.mp hb2; omega
           · have hk := hbehind k jt hk h hcl2
             show listed.getD (lo + k) false = _
             rw [hk]
             cases hb2 : Nat.blt (lo + k) (lo + (i - lo)) with
             | false => rfl
             | true => have := Nat.blt_eq.mp hb2; omega
         have hheap : heapAt (fun j => (listed.setIfInBounds i true).getD j false) its lo σ.H = it.upd (heapAt (fun j => listed.getD j false) its lo σ.H) := by
           rw [hfun]
           have := z1dm (f := fun j => listed.getD j false) its lo (i - lo) (H := σ.H) hit (by simp only [hli]; exact hnD) (fun k jt b hk hjt h1 h2 => hbehind k jt hjt hk (by
             simp only [clash, z14p h1 (wr_rd h2), Bool.true_or]))
           rw [hli] at this
           exact this
         have hput : ∀ (v : Value) t, t < σ.n → (a.put o.dst v).tmps.getD t undef = if o.dst = some t then v else a.tmps.getD t undef := fun v t ht => by
           cases hdd : o.dst with
           | none => simp [Act.put]
           | some d =>
             have hds : d < a.tmps.size := by rw [hmid.size]; exact hdlt d hdd
             rw [zwg _ _ _ _ hds]
             by_cases e : d = t
             · subst e; simp
             · rw [if_neg e, if_neg (fun h => e (Option.some.inj h))]
         have hpsz : ∀ v : Value, (a.put o.dst v).tmps.size = σ.n := fun v => by
           cases hdd : o.dst with
           | none => exact hmid.size
           | some d => simp only [Act.put, Array.size_setIfInBounds]; exact hmid.size
         -- behind the operation
         have hnext : ∀ v c2 w2, VR w2 c2 it.pv v ∨ o.dst = none → Good w2 c2 (it.upd (heapAt (fun j => listed.getD j false) its lo σ.H)) σ.ts → Ext w c w2 c2 →
             wpAny P .any ops Q' fuel (listed.setIfInBounds i true) (a.put o.dst v) w2 := by
           intro v c2 w2 hv hg2 hx2
           have hlt := z1b1 (ops := ops) hil hmid.sz hnD
           refine ih (left ops (listed.setIfInBounds i true)) (by omega) fuel _ c2 _ _ rfl (by omega) ?_ (fun fuel' listed' c' a' w' s1 s2 s3 s4 s5 s6 s7 => hK fuel' listed' c' a' w' s1 s2 s3 s4 s5 (hx2.trans s6) (s7.trans (Act.put_defers' _ _ _)))
           refine ⟨by rw [hheap]; exact hg2, hpsz v, by simp [hmid.sz], ?_, ?_, ?_, ?_, ?_⟩
           · intro t ht hno
             rw [hput v t ht, if_neg (hno i o hlo ((hget i).2 (.inr rfl)) ho)]
             exact (hmid.old t ht (fun j oj hjl hDj => hno j oj hjl ((hget j).2 (.inl hDj)))).ext hx2
           · intro j oj itj t hjl hDj hoj hpj hjt ht
             rw [hput v t ht]
             by_cases hji : j = i
             · subst hji
               rw [ho] at hoj; cases hoj
               rw [if_pos hjt]
               rw [hit] at hpj; cases hpj
               exact hv.resolve_right (fun h => by rw [h] at hjt; cases hjt)
             · have hDj' := ((hget j).1 hDj).resolve_right hji
               have hjh := hmid.below j hDj'
               have hne : o.dst ≠ some t := by
                 intro e
                 rcases Nat.lt_or_ge j i with h | h
                 · exact (hpair j i oj o hjl h hhi hoj ho).1 t hjt e
                 · exact (hpair i j o oj hlo (by omega) hjh ho hoj).1 t e hjt
               rw [if_neg hne]
               exact (hmid.new j oj itj t hjl hDj' hoj hpj hjt ht).ext hx2
           · intro j oj e hDj hoj he hb
             rcases (hget j).1 hDj with h | h
             · exact (hget _).2 (.inl (hmid.closed j oj e h hoj he hb))
             · subst h
               rw [ho] at hoj; cases hoj
               exact (hget _).2 (.inl (hedges e (by simpa using he) hb))
           · intro j hjl hjs
             exact (hget j).2 (.inl (hmid.ahead j hjl hjs))
           · intro j hDj
             rcases (hget j).1 hDj with h | h
             · exact hmid.below j h
             · subst h; exact hhi
         obtain ⟨h1, h2, h3⟩ := zaz ((seg ops lo hi).take (i - lo)) ((its.map Item.pv).take (i - lo)) σ
         have hrel : RelC w c { (pre (seg ops lo hi) (its.map Item.pv) σ (i - lo)).keep (o.looksAt ops) with H := heapAt (fun j => listed.getD j false) its lo σ.H } a :=
           ⟨by have := hmid.good; simp only [AS.keep, pre, h3]; exact this, hslo⟩
         unfold wpOp
         rw [ho]
         simp only
         cases it with
         | q p L =>
           obtain ⟨g, hg, hstep⟩ := hati
           rw [z2p hslo hg]
           cases g with
           | true =>
             simp only [if_true] at hstep ⊢
             refine .inl (hstep _ (fun b hb => hsame b hb) c a w _ Q' hrel fun v w2 hv hg2 hx2 => hnext v c w2 (.inl hv) ?_ hx2)
             have hg2 := hg2
             simp only [AS.keep, pre, h3] at hg2
             exact hg2
           | false =>
             simp only [Bool.false_eq_true, if_false] at hstep ⊢
             subst hstep
             exact hnext undef c w (.inl zoa) hmid.good (Ext.refl _ _)
         | al pf b cs e L =>
           obtain ⟨hbn, hg, hnew⟩ := hati
           rw [z2p hslo hg]
           simp only [if_true]
           have hgone : (heapAt (fun j => listed.getD j false) its lo σ.H)[b]? = some .gone := by
             rw [hsame b (by simp [Item.rd])]; exact hbn
           obtain ⟨hlf, hnew⟩ := hnew _ (fun b' hb' => hsame b' (by simp [Item.rd, hb']))
           refine .inl ?_
           rcases hnew w c a hrel with ⟨v, d, ⟨vs, fr, k1, k2, k3, k4, k5⟩ | ⟨rfl, k1, k2⟩⟩
           · have hq2 := zhm hmid.good d
             obtain ⟨g2, x2, hs2⟩ := z1hi hq2.1 hgone (e := e) (fr := fr) k3 k2 hlf (VRs.ext hq2.2 cs (fun _ _ _ e => e) k4)
             exact z9z k1 (hnext _ _ _ (.inl (k5 _ _ b (zoi { w with drawn := d } _) hs2)) g2 (hq2.2.trans x2))
           · have hq2 := zhm hmid.good d
             obtain ⟨g2, hn2⟩ := z1ra hq2.1 hgone e
             exact z9z k1 (hnext _ _ _ (.inl (k2 _ _ b hn2)) g2 hq2.2)
         | ef p us L =>
           obtain ⟨hg, hstep⟩ := hati
           rw [z2p hslo hg]
           simp only [if_true]
           refine .inl (hstep _ (fun b hb => hsame b (by simpa only [Item.rd] using hb)) c a w _ Q' hrel fun v c2 w2 hv hg2 hx2 => hnext v c2 w2 hv ?_ hx2)
           have hg2 := hg2
           simp only [AS.keep, pre, h3] at hg2
           exact hg2
end D
end Go.Ab
set_option linter.unusedSimpArgs false
set_option linter.unusedVariables false
namespace Go.Ab
theorem z1j0 {P : Program} {w : World} {t e : TypeId} {a : Option Addr} {n m : Nat} (ht : P.underlying t = some (.slice e)) : (Op.equal t (.slice a n m) (.slice none 0 0)).run P w = .ok a.isNone w := by
 show (Op.equalIn (9999 + 1) t _ _).run P w = _
 unfold Op.equalIn
 rw [Sem.run_bind, run_underlying ht]
 cases a <;> rfl
theorem z1op {w : World} {c : Cx} {p : PV} {n : Nat} {v : Value} (h : (∃ cs t, p = .tr n cs t) ∨ ∃ b off sz, p = .sl b off n sz) (hv : VR w c p v) : ∃ a k m, v = .slice a k m ∧ (n ≠ 0 → a.isNone = false) := by
 rcases h with ⟨cs, t, rfl⟩ | ⟨b, off, sz, rfl⟩
 · simp only [VR] at hv
   rcases hv with ⟨rfl, h2, _⟩ | ⟨a, cap, rfl, _⟩
   · exact ⟨none, 0, 0, rfl, fun h => absurd h2 h⟩
   · exact ⟨some a, n, cap, rfl, fun _ => rfl⟩
 · simp only [VR] at hv
   rcases hv with ⟨⟨a, rfl⟩, h2⟩ | ⟨k, cap, off', _, rfl, _⟩
   · exact ⟨a, 0, 0, rfl, fun h => absurd h2 h⟩
   · exact ⟨_, n, cap, rfl, fun _ => rfl⟩
theorem z1kj {P : Program} {o : Oper} {σ : AS} {t yt e : TypeId} {x : Operand} {op : BinOp} {ng : Bool} {p : PV} {n : Nat} (ho : o.op = .binOp op t x (.const (.slice none 0 0)) yt) (hop : (op = .eql ∧ ng = false) ∨ (op = .neq ∧ ng = true)) (ht : P.underlying t = some (.slice e)) (hx : σ.eval x = p)
   (hp : (∃ cs t, p = .tr n cs t) ∨ ∃ b off sz, p = .sl b off n sz) {c : Cx} {a : Act} {w : World} {K : Act → World → Prop} {Q : Exit → Act → World → Prop} (hr : RelC w c σ a)
   (hK : ∀ b : Bool, (n ≠ 0 → b = false) → K (a.put o.dst (.bool (bif ng then !b else b))) w) : o.wp P a w K Q := by
 have hv := hr.2.eval x
 rw [hx] at hv
 obtain ⟨ad, k, m, e1, h1⟩ := z1op hp hv
 have ey : a.eval (.const (.slice none 0 0)) = .slice none 0 0 := rfl
 have he := z1j0 (P := P) (w := w) (a := ad) (n := k) (m := m) ht
 refine z9z (w' := w) (v := .bool (bif ng then !ad.isNone else ad.isNone)) ?_ (hK ad.isNone h1)
 rcases hop with ⟨rfl, rfl⟩ | ⟨rfl, rfl⟩
 · simp only [execOp, ho, e1, ey, Sem.run_bind, z6x (P := P) (w := w) (op := .eql) (t := t) (x := x) (y := .const (.slice none 0 0)) (a := .slice ad k m) (b := .slice none 0 0) (by simp) (by simp), Result.andThen_ok]
   rw [show binOp .eql t (.slice ad k m) (.slice none 0 0) = (do pure (.bool (← Op.equal t (.slice ad k m) (.slice none 0 0)))) from rfl, Sem.run_bind, he]; rfl
 · simp only [execOp, ho, e1, ey, Sem.run_bind, z6x (P := P) (w := w) (op := .neq) (t := t) (x := x) (y := .const (.slice none 0 0)) (a := .slice ad k m) (b := .slice none 0 0) (by simp) (by simp), Result.andThen_ok]
   rw [show binOp .neq t (.slice ad k m) (.slice none 0 0) = (do pure (.bool (!(← Op.equal t (.slice ad k m) (.slice none 0 0))))) from rfl, Sem.run_bind, he]; rfl
theorem z1lb {P : Program} {o : Oper} {σ : AS} {t e el : TypeId} {x : Operand} {lo hi : Option Operand} {b off n sz l h : Nat} {cs : List PV} (ho : o.op = .slice t x lo hi none) (ha : P.underlying t = some (.array n e))
   (hs : tySz P e = some sz) (hx : σ.eval x = .ptr b off) (hb : σ.H[b]? = some (.row cs el)) (hlen : off + n * sz ≤ cs.length)
   (hl : z1k σ lo 0 l) (hh : z1k σ hi n h) (h1 : l ≤ h) (h2 : h ≤ n) : QStep P o σ (.sl b (off + l * sz) (h - l) sz) :=
 q_run fun w c a hr => by
   have hv := hr.2.eval x
   rw [hx] at hv
   simp only [VR] at hv
   obtain ⟨k, hk, hxe⟩ := hv
   obtain ⟨vs, fr, h4, h5, h6, h7, h8⟩ := (hr.1.obj b _ hb).row hk
   refine ⟨.slice (some (if n = l then ⟨k, off, none⟩ else (⟨k, off, none⟩ : Addr).add (l * sz))) (h - l) (n - l), ?_, ?_⟩
   · simp only [execOp, ho, hxe, Instr.sliceAt, Instr.sureAddr, Sem.run_bind, Result.andThen_ok, Option.map_none, Sem.run_pure, run_underlying ha, zhp hr hl hh h1 h2, run_sizeOf hs]
   · simp only [VR]
     by_cases hn : n = l
     · rw [if_pos hn]
       refine .inr ⟨k, n - l, off, hk, rfl, ?_, by omega, vs, el, fr, h4, ?_⟩
       · by_cases hz : l * sz = 0
         · exact .inr (by omega)
         · exact .inl ⟨by omega, by omega⟩
       · rw [hn, Nat.sub_self, Nat.zero_mul]; omega
     · rw [if_neg hn, z7d]
       refine .inr ⟨k, n - l, off + l * sz, hk, rfl, .inr rfl, by omega, vs, el, fr, h4, ?_⟩
       have : l * sz + (n - l) * sz = n * sz := by rw [← Nat.add_mul]; congr 1; omega
       omega
end Go.Ab
set_option linter.unusedSimpArgs false
set_option linter.unusedVariables false
namespace Go.Ab
def Wd (r : Option Nat) : Fence := { Fence.wide with round := r }
theorem z1jn (r : Option Nat) (n : Nat) : (Wd r).room n := fun _ h => by simp [Wd, Fence.wide] at h
theorem zby (r : Option Nat) (P : Program) (m : Machine) : m.fenced P (Wd r) := fenced_wide P m
theorem z1gs {r : Option Nat} {P : Program} {f : FuncId} {args : Array Value} {w : World} {R : Ending → World → Prop} (h : Calls P f args w R) : CallsIn (Wd r) 0 P f args w R := (callsIn_wide (n := 0)).2 h
theorem z1r6 {r : Option Nat} {P : Program} {row : String} {args : Array Value} {w : World} {R : Value → World → Prop} (h : Rows P row args w R) : RowsIn (Wd r) 0 P row args w R := fun c cs _ => by
 obtain ⟨v, w', r1, s⟩ := h c cs
 exact ⟨v, w', r1, (StepsIn.of_steps s).mono fun m _ => fenced_wide P m⟩
theorem z1el {r : Option Nat} {P : Program} {o : Oper} {a : Act} {w : World} {K : Act → World → Prop} {Q : Exit → Act → World → Prop} (hd : ∀ c, o.op ≠ .defer c) (h : o.wp P a w K Q) : o.wpIn (Wd r) 0 P a w K Q := by
 refine ⟨fun _ _ => trivial, ?_⟩
 rw [Oper.semAt_eq _ _ _ hd]
 unfold Oper.wp at h
 generalize (execOp a.eval o).run P w = res at h ⊢
 unfold Oper.upon at h
 split at h
 · exact h
 · exact h
 · exact h
 · exact ⟨fun h => by simp [Wd, Fence.wide] at h, z1gs h⟩
 · exact ⟨fun h => by simp [Wd, Fence.wide] at h, z1r6 h⟩
 · exact h
 · exact h.elim
theorem z1ms {Q : Exit → Act → World → Prop} : ¬ LetsOut (fun e a w => e = .normal ∧ Q e a w) := fun ⟨_, _, h⟩ => by cases h.1
def calm (l : List Oper) : Bool := l.all fun o => match o.op with
 | .defer _ => false
 | _ => true
theorem z1e9 {ops : Array Oper} (h : calm ops.toList = true) {i : Nat} {o : Oper} (ho : ops[i]? = some o) : ∀ c, o.op ≠ .defer c := fun c e => by
 have hm : o ∈ ops.toList := by
   rw [Array.mem_toList_iff]
   exact Array.mem_of_getElem? ho
 have := List.all_eq_true.1 h o hm
 rw [e] at this
 cases this
theorem z1c4 {r : Option Nat} {P : Program} {ops : Array Oper} {Q : Exit → Act → World → Prop} (hc : calm ops.toList = true) (hQ : ¬ LetsOut Q) : ∀ (l : List Nat) (a : Act) (w : World), wpOps P ops Q l a w → wpOpsIn (Wd r) 0 P ops Q l a w
 | [], _, _, h => h
 | i :: rest, a, w, h => by
   simp only [wpOps] at h
   simp only [wpOpsIn]
   cases ho : ops[i]? with
   | none =>
     rw [ho] at h
     exact z1c4 hc hQ rest a w h
   | some o =>
     rw [ho] at h
     dsimp only at h ⊢
     split at h
     · rename_i hw
       rw [if_pos hw]
       rcases h with h | h
       · exact Oper.wpIn_mono (fun a w => z1c4 hc hQ rest a w) (z1el (z1e9 hc ho) h)
       · exact absurd h.2 hQ
     · rename_i hw
       rw [if_neg hw]
       exact ⟨fun _ _ => trivial, z1c4 hc hQ rest _ w h⟩
theorem z1cy {r : Option Nat} {P : Program} {md : Region.Mode} {ops : Array Oper} {Q : Exit → Act → World → Prop} (hc : calm ops.toList = true) (hQ : ¬ LetsOut Q) : ∀ (fuel : Nat) (listed : Array Bool) (a : Act) (w : World), wpAny P md ops Q fuel listed a w → wpAnyIn (Wd r) 0 P md ops Q fuel listed a w
 | 0, _, _, _, h => h
 | fuel + 1, listed, a, w, h => by
   refine ⟨h.1, fun i hi => ?_⟩
   have h2 := h.2 i hi
   unfold wpOp at h2
   unfold wpOpIn
   cases ho : ops[i]? with
   | none =>
     rw [ho] at h2
     exact z1cy hc hQ fuel _ a w h2
   | some o =>
     rw [ho] at h2
     dsimp only at h2 ⊢
     split at h2
     · rename_i hw
       rw [if_pos hw]
       rcases h2 with h2 | h2
       · exact Oper.wpIn_mono (fun a w => z1cy hc hQ fuel _ a w) (z1el (z1e9 hc ho) h2)
       · exact absurd h2.2 hQ
     · rename_i hw
       rw [if_neg hw]
       exact ⟨fun _ _ => trivial, z1cy hc hQ fuel _ _ w h2⟩
section
variable {P : Program} {b : Frame} {a : Act} {k : List Go.Item} {cs : List Frame} {w : World} {Q : Exit → Act → World → Prop}
theorem zii {c : Code} : step P (lone (b.atR a (.code (.scope c) :: k)) cs w) = .next (lone (b.atR a (.code c :: .inScope c :: k)) cs w) :=
 step_lone_go (by simp [stepG, stepG.exec, Frame.atR])
theorem z1ge {c : Code} : step P (lone (b.atR a (.inScope c :: k)) cs w) = .next (lone (b.atR a k) cs w) :=
 step_lone_go (by simp [stepG, stepG.exec, Frame.atR])
theorem z1c5 {r : Option Nat} {c : Code} (h : c.wpIn (Wd r) 0 P (Exit.noGoto Q) a w) : (Code.scope c).wpIn (Wd r) 0 P Q a w := by
 intro b k cs hro hb hr
 obtain ⟨e, a₁, w₁, hq, harr⟩ := h b (.inScope c :: k) cs hro hb hr
 cases e with
 | normal =>
   have h1 : StepsIn (Machine.fenced P (Wd r)) P (lone (b.atR a (.code c :: .inScope c :: k)) cs w) (lone (b.atR a₁ (.inScope c :: k)) cs w₁) := harr
   have h2 : StepsIn (Machine.fenced P (Wd r)) P (lone (b.atR a₁ (.inScope c :: k)) cs w₁) (lone (b.atR a₁ k) cs w₁) := .one (zby r P _) z1ge
   exact ⟨.normal, a₁, w₁, hq, .of_steps (.one (zby r P _) zii) (h1.trans h2)⟩
 | exit id =>
   refine ⟨.exit id, a₁, w₁, hq, fun k' hk => .head (zby r P _) zii (harr.1 k' (by simp [exitTo, hk])), fun hs hk => ?_⟩
   obtain ⟨k1, h1, h2⟩ := harr.2 hs (by simp [exitTo, hk])
   exact ⟨k1, h1, .head (zby r P _) zii h2⟩
 | goto l => exact hq.elim
 | ret => exact ⟨.ret, a₁, w₁, hq, .of_steps (.one (zby r P _) zii) (show ArrivesIn _ P _ b k cs .ret a₁ w₁ from harr)⟩
 | panic ch => exact ⟨.panic ch, a₁, w₁, hq, .of_steps (.one (zby r P _) zii) (show ArrivesIn _ P _ b k cs (.panic ch) a₁ w₁ from harr)⟩
 | outgrown => exact ⟨.outgrown, a₁, w₁, hq, .of_steps (.one (zby r P _) zii) (show ArrivesIn _ P _ b k cs .outgrown a₁ w₁ from harr)⟩
end
end Go.Ab