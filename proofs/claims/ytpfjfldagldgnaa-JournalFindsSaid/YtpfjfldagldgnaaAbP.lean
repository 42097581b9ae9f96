import Derived.Test.YtpfjfldagldgnaaAb28toR
set_option linter.unusedSimpArgs false
set_option linter.unusedVariables false
namespace Go.Ab
structure Foreign (M : Nat → Prop) (w w' : World) : Prop where
 os : w'.os = w.os
 tape : w'.tape = w.tape
 output : w'.output = w.output
 size : w.heap.size ≤ w'.heap.size
 keep : ∀ k, k < w.heap.size → ¬ M k → w'.heap[k]? = w.heap[k]?
theorem Foreign.refl (M : Nat → Prop) (w : World) : Foreign M w w := ⟨rfl, rfl, rfl, Nat.le_refl _, fun _ _ _ => rfl⟩
def Grows (w : World) (M M' : Nat → Prop) : Prop := ∀ k, M' k → M k ∨ w.heap.size ≤ k
theorem Foreign.trans {M M' : Nat → Prop} {w w' w2 : World} (h : Foreign M w w') (hg : Grows w M M') (h2 : Foreign M' w' w2) : Foreign M w w2 where
 os := h2.os.trans h.os
 tape := h2.tape.trans h.tape
 output := h2.output.trans h.output
 size := Nat.le_trans h.size h2.size
 keep := fun k hk hm => (h2.keep k (Nat.lt_of_lt_of_le hk h.size) fun h' => (hg k h').elim hm fun h' => absurd hk (Nat.not_lt.2 h')).trans (h.keep k hk hm)
theorem Grows.trans {w w' : World} {M M' M2 : Nat → Prop} (h : Grows w M M') (hs : w.heap.size ≤ w'.heap.size) (h2 : Grows w' M' M2) : Grows w M M2 := fun k hk =>
 (h2 k hk).elim (h k) fun h' => .inr (Nat.le_trans hs h')
structure Apart (M : Nat → Prop) (w : World) (c : Cx) : Prop where
 m : ∀ k : Nat, some k ∈ c.m → ¬ M k
 ok : ∀ k e, c.ok k e → ¬ M k ∨ w.heap.size ≤ k
 lt : ∀ k, M k → k < w.heap.size
 gb : ∀ k, M k → gb ≤ k
def Cx.sans (c : Cx) (M : Nat → Prop) : Cx := { c with ok := fun k e => c.ok k e ∧ ¬ M k }
structure Sees (w : World) (c : Cx) (w' : World) (c' : Cx) : Prop where
 m : ∀ b k : Nat, c.m[b]? = some (some k) → c'.m[b]? = some (some k)
 T : c.T = []
 foot : ∀ a n, Foot w c a n → Foot w' c' a n
 cell : ∀ (a : Addr) n i v, Foot w c a n → i < n → w.cell? ⟨a.block, a.off + i, none⟩ = some v → w'.cell? ⟨a.block, a.off + i, none⟩ = some v
 room : ∀ (b k : Nat) vs e fr, c.m[b]? = some (some k) → w.heap[k]? = some (Obj.cells vs e fr) → ∃ (vs' : Array Value) (fr' : Nat × Nat), w'.heap[k]? = some (Obj.cells vs' e fr') ∧ vs'.size = vs.size
mutual
theorem VR.sees {w w' : World} {c c' : Cx} (x : Sees w c w' c') : ∀ (p : PV) {v : Value}, VR w c p v → VR w' c' p v
 | .val _, _, h => by simp only [VR] at h ⊢; exact h
 | .ptr b off, _, h => by
   simp only [VR] at h ⊢
   obtain ⟨k, h1, h2⟩ := h
   exact ⟨k, x.m _ _ h1, h2⟩
 | .fz cs, _, h => by
   simp only [VR] at h ⊢
   obtain ⟨a, h1, h2, hl, h3⟩ := h
   exact ⟨a, h1, x.foot _ _ h2, hl, VRs.sees x cs (fun i hi v hv => x.cell a _ i v h2 hi hv) h3⟩
 | .sl b off len sz, _, h => by
   simp only [VR] at h ⊢
   rcases h with h | ⟨k, cap, off', h1, h2, h0, h3, vs, e, fr, h4, h5⟩
   · exact .inl h
   · obtain ⟨vs', fr', h6, h7⟩ := x.room b k vs e fr h1 h4
     exact .inr ⟨k, cap, off', x.m _ _ h1, h2, h0, h3, vs', e, fr', h6, by omega⟩
 | .tr len cs t, _, h => by
   simp only [VR] at h ⊢
   rcases h with h | ⟨a, cap, h1, hc, h2, h4, hl, h3⟩
   · exact .inl h
   · refine .inr ⟨a, cap, h1, hc, x.foot _ _ h2, ?_, hl, VRs.sees x cs (fun i hi v hv => x.cell a _ i v h2 hi hv) h3⟩
     cases t with
     | no => trivial
     | full => exact h4
     | tok i sz => have := h4.1; rw [x.T] at this; simp at this
 | .fn f caps, _, h => by
   simp only [VR] at h ⊢
   obtain ⟨cv, h1, h2, h3⟩ := h
   exact ⟨cv, h1, h2, VRs.sees x caps (fun _ _ _ e => e) h3⟩
 | .agg cs, _, h => by
   simp only [VR] at h ⊢
   obtain ⟨cv, h1, h2, hl, h3⟩ := h
   exact ⟨cv, h1, h2, hl, VRs.sees x cs (fun _ _ _ e => e) h3⟩
 | .tup cs, _, h => by
   simp only [VR] at h ⊢
   obtain ⟨cv, h1, h2, h3⟩ := h
   exact ⟨cv, h1, h2, VRs.sees x cs (fun _ _ _ e => e) h3⟩
 | .ifc t p, _, h => by
   simp only [VR] at h ⊢
   obtain ⟨v, h1, h2⟩ := h
   exact ⟨v, h1, VR.sees x p h2⟩
 | .one, _, h => by simp only [VR] at h ⊢; exact h
 | .dead, _, _ => by simp only [VR]
theorem VRs.sees {w w' : World} {c c' : Cx} (x : Sees w c w' c') : ∀ (ps : List PV) {f g : Nat → Option Value},
   (∀ i, i < ps.length → ∀ v, f i = some v → g i = some v) → VRs w c ps f → VRs w' c' ps g
 | [], _, _, _, _ => by simp only [VRs]
 | p :: ps, f, g, hfg, h => by
   simp only [VRs] at h ⊢
   obtain ⟨⟨v, h1, h2⟩, h3⟩ := h
   exact ⟨⟨v, hfg 0 (by simp) v h1, VR.sees x p h2⟩, VRs.sees x ps (fun i hi u hu => hfg (i + 1) (by simp; omega) u hu) h3⟩
end
theorem z15z {M M' : Nat → Prop} {w w' : World} {c : Cx} {H : List AObj} (g : Good w c H []) (ap : Apart M w c) (f : Foreign M w w') (hg : Grows w M M') : Sees w c w' (c.sans M') where
 m := fun b k h => h
 T := by
   have := g.tl
   exact List.eq_nil_of_length_eq_zero this
 foot := fun a n h => by
   rcases h with h | ⟨h1, h2, h3, h4, h5⟩
   · exact .inl h
   · have hM : ¬ M a.block := (ap.ok _ _ h5).elim id fun h' => absurd h2 (Nat.not_lt.2 h')
     exact .inr ⟨h1, Nat.lt_of_lt_of_le h2 f.size, h3, h4, h5, fun h' => (hg _ h').elim hM fun h'' => absurd h2 (Nat.not_lt.2 h'')⟩
 cell := fun a n i v h hi hv => by
   rcases h with h | ⟨h1, h2, h3, h4, h5⟩
   · omega
   · have hM : ¬ M a.block := (ap.ok _ _ h5).elim id fun h' => absurd h2 (Nat.not_lt.2 h')
     have : w'.cell? ⟨a.block, a.off + i, none⟩ = w.cell? ⟨a.block, a.off + i, none⟩ := z6h (f.keep _ h2 hM)
     rw [this]; exact hv
 room := fun b k vs e fr h hh => ⟨vs, fr, (f.keep k (ObjC.lt g h) (ap.m k (List.mem_of_getElem? h))).trans hh, rfl⟩
theorem z17q {M M' : Nat → Prop} {w w' : World} {c : Cx} {H : List AObj} (g : Good w c H []) (ap : Apart M w c) (f : Foreign M w w') (hg : Grows w M M') (hlt : ∀ k, M' k → k < w'.heap.size) :
   Good w' (c.sans M') H [] := by
 have x := z15z g ap f hg
 have hk : ∀ b k : Nat, c.m[b]? = some (some k) → w'.heap[k]? = w.heap[k]? := fun b k h => f.keep k (ObjC.lt g h) (ap.m k (List.mem_of_getElem? h))
 have hnM' : ∀ b k : Nat, c.m[b]? = some (some k) → ¬ M' k := fun b k h h' => (hg k h').elim (ap.m k (List.mem_of_getElem? h)) fun h'' => absurd (ObjC.lt g h) (Nat.not_lt.2 h'')
 refine ⟨g.len, g.inj, fun b o h => ?_, g.tl, g.tal, g.tdead, fun i k j h => by rw [show (c.sans M').T = c.T from rfl, x.T] at h; simp at h, g.tinj, fun k e h => ⟨g.okn k e (Nat.le_trans f.size h), fun h' => absurd (hlt k h') (Nat.not_lt.2 h)⟩,
   fun k e e' h he => ⟨g.okm k e e' h.1 he, h.2⟩, fun i k j h => by rw [show (c.sans M').T = c.T from rfl, x.T] at h; simp at h, fun b k hb h e => ⟨g.oko b k hb h e, hnM' b k h⟩, ⟨Nat.le_trans g.gl.sz f.size, g.gl.m, g.gl.T, Glob.stay (fun k hk => f.keep k (Nat.lt_of_lt_of_le hk g.gl.sz) fun h' => Nat.not_lt.2 (ap.gb k h') hk) g.gl.var⟩⟩
 have ho := g.obj b o h
 cases o with
 | row cs e =>
   rcases ho with ⟨h1, h2⟩ | ⟨k, vs, fr, h1, h2, hf, h3, hl, h4⟩
   · exact .inl ⟨h1, h2⟩
   · exact .inr ⟨k, vs, fr, h1, (hk b k h1).trans h2, hf, h3, hl, VRs.sees x cs (fun _ _ _ e => e) h4⟩
 | raw o =>
   obtain ⟨k, h1, h2⟩ := ho
   exact ⟨k, h1, (hk b k h1).trans h2⟩
 | gone => exact ho
def Cx.own (c : Cx) (k : Nat) : Prop := some k ∈ c.m
theorem z1ab {p : Nat} {w w' : World} {c c' : Cx} (x : ExtP p w c w' c') : Foreign c.own w w' ∧ Grows w c.own c'.own :=
 ⟨⟨x.os, x.tape, x.output, x.size, fun k hk hm => x.blocks k hk hm⟩, fun k hk => x.new k hk⟩
theorem z1jz {w : World} {c : Cx} {H : List AObj} {ok' : Nat → Nat → Prop} (g : Good w c H []) (h : ∀ k e, c.ok k e → ok' k e) (hm : ∀ k e e', ok' k e → e' ≤ e → ok' k e') : Good w { c with ok := ok' } H [] ∧ Sees w c w { c with ok := ok' } := by
 have hT : c.T = [] := List.eq_nil_of_length_eq_zero g.tl
 have x : Sees w c w { c with ok := ok' } := ⟨fun _ _ h => h, hT, fun a n hf => hf.elim .inl fun ⟨h1, h2, h3, h4, h5⟩ => .inr ⟨h1, h2, h3, h4, h _ _ h5⟩, fun _ _ _ _ _ _ h => h, fun b k vs e fr _ hh => ⟨vs, fr, hh, rfl⟩⟩
 refine ⟨⟨g.len, g.inj, fun b o ho => ?_, g.tl, g.tal, g.tdead, g.tok, g.tinj, fun k e hk => h _ _ (g.okn k e hk), hm, fun i k j hi => by rw [show ({ c with ok := ok' } : Cx).T = c.T from rfl, hT] at hi; simp at hi, fun b k hb hk e => h _ _ (g.oko b k hb hk e), ⟨g.gl.sz, g.gl.m, g.gl.T, g.gl.var⟩⟩, x⟩
 have hob := g.obj b o ho
 cases o with
 | row cs e =>
   rcases hob with ⟨h1, h2⟩ | ⟨k, vs, fr, h1, h2, hf, h3, hl, h4⟩
   · exact .inl ⟨h1, h2⟩
   · exact .inr ⟨k, vs, fr, h1, h2, hf, h3, hl, VRs.sees x cs (fun _ _ _ e => e) h4⟩
 | raw o => exact hob
 | gone => exact hob
theorem Sees.trans {w w' w2 : World} {c c' c2 : Cx} (x : Sees w c w' c') (y : Sees w' c' w2 c2) : Sees w c w2 c2 where
 m := fun b k h => y.m _ _ (x.m _ _ h)
 T := x.T
 foot := fun a n h => y.foot _ _ (x.foot _ _ h)
 cell := fun a n i v h hi hv => y.cell a n i v (x.foot _ _ h) hi (x.cell a n i v h hi hv)
 room := fun b k vs e fr h hh => by
   obtain ⟨vs1, fr1, h1, h2⟩ := x.room b k vs e fr h hh
   obtain ⟨vs2, fr2, h3, h4⟩ := y.room b k vs1 e fr1 (x.m _ _ h) h1
   exact ⟨vs2, fr2, h3, h4.trans h2⟩
theorem zzz {M M' : Nat → Prop} {K0 : Nat → Nat → Prop} {w w' : World} {c : Cx} {H : List AObj} (g : Good w c H []) (hok : c.ok = fun k e => K0 k e ∧ ¬ M k) (hK : ∀ k e e', K0 k e → e' ≤ e → K0 k e')
   (hm : ∀ k, c.own k → ¬ M k) (hlt : ∀ k, M k → k < w.heap.size) (hgb : ∀ k, M k → gb ≤ k) (f : Foreign M w w') (hg : Grows w M M') (hlt' : ∀ k, M' k → k < w'.heap.size) :
   Good w' { c with ok := fun k e => K0 k e ∧ ¬ M' k } H [] ∧ Sees w c w' { c with ok := fun k e => K0 k e ∧ ¬ M' k } := by
 have ap : Apart M w c := ⟨hm, fun k e h => by rw [hok] at h; exact .inl h.2, hlt, hgb⟩
 have g1 := z17q g ap f hg hlt'
 have x1 := z15z g ap f hg
 have h := z1jz (ok' := fun k e => K0 k e ∧ ¬ M' k) g1 (fun k e h => by
   have h1 : c.ok k e := h.1
   rw [hok] at h1
   exact ⟨h1.1, h.2⟩) (fun k e e' h he => ⟨hK k e e' h.1 he, h.2⟩)
 exact ⟨h.1, x1.trans h.2⟩
structure Two (K0 : Nat → Nat → Prop) (X : Nat → Prop) (w : World) (cb : Cx) (Hb : List AObj) (ci : Cx) (Hi : List AObj) : Prop where
 b : Good w cb Hb []
 i : Good w ci Hi []
 bok : cb.ok = fun k e => K0 k e ∧ ¬ (ci.own k ∨ X k)
 iok : ci.ok = fun k e => K0 k e ∧ ¬ (cb.own k ∨ X k)
 mono : ∀ k e e', K0 k e → e' ≤ e → K0 k e'
 apart : ∀ k, cb.own k → ¬ ci.own k
 xb : ∀ k, X k → ¬ cb.own k
 xi : ∀ k, X k → ¬ ci.own k
 xlt : ∀ k, X k → k < w.heap.size
 xgb : ∀ k, X k → gb ≤ k
theorem Two.own_b {K0 : Nat → Nat → Prop} {X : Nat → Prop} {w : World} {cb ci : Cx} {Hb Hi : List AObj} (h : Two K0 X w cb Hb ci Hi) {k : Nat} (hk : cb.own k) : k < w.heap.size ∧ gb ≤ k := ⟨h.b.mlt hk, h.b.gl.m k hk⟩
theorem Two.own_i {K0 : Nat → Nat → Prop} {X : Nat → Prop} {w : World} {cb ci : Cx} {Hb Hi : List AObj} (h : Two K0 X w cb Hb ci Hi) {k : Nat} (hk : ci.own k) : k < w.heap.size ∧ gb ≤ k := ⟨h.i.mlt hk, h.i.gl.m k hk⟩
theorem Two.body {K0 : Nat → Nat → Prop} {X : Nat → Prop} {p : Nat} {w w' : World} {cb ci cb' : Cx} {Hb Hi Hb' : List AObj} (h : Two K0 X w cb Hb ci Hi) (x : ExtP p w cb w' cb') (g : Good w' cb' Hb' []) :
   Two K0 X w' cb' Hb' { ci with ok := fun k e => K0 k e ∧ ¬ (cb'.own k ∨ X k) } Hi ∧ Sees w ci w' { ci with ok := fun k e => K0 k e ∧ ¬ (cb'.own k ∨ X k) } ∧ ∀ k, X k → w'.heap[k]? = w.heap[k]? := by
 obtain ⟨f, hg⟩ := z1ab x
 have f' : Foreign (fun k => cb.own k ∨ X k) w w' := ⟨f.os, f.tape, f.output, f.size, fun k hk hm => f.keep k hk fun h' => hm (.inl h')⟩
 have hg' : Grows w (fun k => cb.own k ∨ X k) (fun k => cb'.own k ∨ X k) := fun k hk => hk.elim (fun h' => (hg k h').elim (fun h2 => .inl (.inl h2)) .inr) fun h' => .inl (.inr h')
 obtain ⟨g2, x2⟩ := zzz (M' := fun k => cb'.own k ∨ X k) h.i h.iok h.mono (fun k hk => fun h' => h'.elim (fun h2 => h.apart k h2 hk) fun h2 => h.xi k h2 hk) (fun k hk => hk.elim (fun h' => (h.own_b h').1) (h.xlt k)) (fun k hk => hk.elim (fun h' => (h.own_b h').2) (h.xgb k)) f' hg'
   (fun k hk => hk.elim (fun h' => g.mlt h') fun h' => Nat.lt_of_lt_of_le (h.xlt k h') f.size)
 refine ⟨⟨g, g2, by rw [x.ok]; exact h.bok, rfl, h.mono, fun k hk hi => ?_, fun k hk hb => ?_, h.xi, fun k hk => Nat.lt_of_lt_of_le (h.xlt k hk) f.size, h.xgb⟩, x2, fun k hk => f.keep k (h.xlt k hk) (h.xb k hk)⟩
 · rcases hg k hk with h1 | h1
   · exact h.apart k h1 hi
   · exact absurd (h.own_i hi).1 (Nat.not_lt.2 h1)
 · rcases hg k hb with h1 | h1
   · exact h.xb k hk h1
   · exact absurd (h.xlt k hk) (Nat.not_lt.2 h1)
theorem Two.round {K0 : Nat → Nat → Prop} {X : Nat → Prop} {w w' : World} {cb ci cb' : Cx} {Hb Hi Hb' : List AObj} (h : Two K0 X w cb Hb ci Hi) (f' : Foreign (fun k => cb.own k ∨ X k) w w') (hg : Grows w cb.own cb'.own) (hok : cb'.ok = cb.ok) (g : Good w' cb' Hb' []) :
   Two K0 X w' cb' Hb' { ci with ok := fun k e => K0 k e ∧ ¬ (cb'.own k ∨ X k) } Hi ∧ Sees w ci w' { ci with ok := fun k e => K0 k e ∧ ¬ (cb'.own k ∨ X k) } := by
 have hg' : Grows w (fun k => cb.own k ∨ X k) (fun k => cb'.own k ∨ X k) := fun k hk => hk.elim (fun h' => (hg k h').elim (fun h2 => .inl (.inl h2)) .inr) fun h' => .inl (.inr h')
 obtain ⟨g2, x2⟩ := zzz (M' := fun k => cb'.own k ∨ X k) h.i h.iok h.mono (fun k hk => fun h' => h'.elim (fun h2 => h.apart k h2 hk) fun h2 => h.xi k h2 hk) (fun k hk => hk.elim (fun h' => (h.own_b h').1) (h.xlt k)) (fun k hk => hk.elim (fun h' => (h.own_b h').2) (h.xgb k)) f' hg'
   (fun k hk => hk.elim (fun h' => g.mlt h') fun h' => Nat.lt_of_lt_of_le (h.xlt k h') f'.size)
 refine ⟨⟨g, g2, by rw [hok]; exact h.bok, rfl, h.mono, fun k hk hi => ?_, fun k hk hb => ?_, h.xi, fun k hk => Nat.lt_of_lt_of_le (h.xlt k hk) f'.size, h.xgb⟩, x2⟩
 · rcases hg k hk with h1 | h1
   · exact h.apart k h1 hi
   · exact absurd (h.own_i hi).1 (Nat.not_lt.2 h1)
 · rcases hg k hb with h1 | h1
   · exact h.xb k hk h1
   · exact absurd (h.xlt k hk) (Nat.not_lt.2 h1)
theorem Two.iter {K0 : Nat → Nat → Prop} {X : Nat → Prop} {p : Nat} {w w' : World} {cb ci ci' : Cx} {Hb Hi Hi' : List AObj} (h : Two K0 X w cb Hb ci Hi) (x : ExtP p w ci w' ci') (g : Good w' ci' Hi' []) :
   Two K0 X w' { cb with ok := fun k e => K0 k e ∧ ¬ (ci'.own k ∨ X k) } Hb ci' Hi' ∧ Sees w cb w' { cb with ok := fun k e => K0 k e ∧ ¬ (ci'.own k ∨ X k) } ∧ ∀ k, X k → w'.heap[k]? = w.heap[k]? := by
 obtain ⟨f, hg⟩ := z1ab x
 have f' : Foreign (fun k => ci.own k ∨ X k) w w' := ⟨f.os, f.tape, f.output, f.size, fun k hk hm => f.keep k hk fun h' => hm (.inl h')⟩
 have hg' : Grows w (fun k => ci.own k ∨ X k) (fun k => ci'.own k ∨ X k) := fun k hk => hk.elim (fun h' => (hg k h').elim (fun h2 => .inl (.inl h2)) .inr) fun h' => .inl (.inr h')
 obtain ⟨g2, x2⟩ := zzz (M' := fun k => ci'.own k ∨ X k) h.b h.bok h.mono (fun k hk => fun h' => h'.elim (fun h2 => h.apart k hk h2) fun h2 => h.xb k h2 hk) (fun k hk => hk.elim (fun h' => (h.own_i h').1) (h.xlt k)) (fun k hk => hk.elim (fun h' => (h.own_i h').2) (h.xgb k)) f' hg'
   (fun k hk => hk.elim (fun h' => g.mlt h') fun h' => Nat.lt_of_lt_of_le (h.xlt k h') f.size)
 refine ⟨⟨g2, g, rfl, by rw [x.ok]; exact h.iok, h.mono, fun k hk hi => ?_, h.xb, fun k hk hi => ?_, fun k hk => Nat.lt_of_lt_of_le (h.xlt k hk) f.size, h.xgb⟩, x2, fun k hk => f.keep k (h.xlt k hk) (h.xi k hk)⟩
 · rcases hg k hi with h1 | h1
   · exact h.apart k hk h1
   · exact absurd (h.own_b hk).1 (Nat.not_lt.2 h1)
 · rcases hg k hi with h1 | h1
   · exact h.xi k hk h1
   · exact absurd (h.xlt k hk) (Nat.not_lt.2 h1)
end Go.Ab