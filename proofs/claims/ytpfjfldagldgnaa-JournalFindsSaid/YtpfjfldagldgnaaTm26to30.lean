import Derived.Test.YtpfjfldagldgnaaTm21to25
import Derived.Lib.Bytealg
import Derived.Below
import Derived.Laws.AppendOwn
import Derived.Sort.OwnSorted
import Derived.Shelf.Abstract
import Derived.Test.YtpfjfldagldgnaaTm16to20
import Derived.RangeFuncSeq
set_option linter.unusedSimpArgs false
set_option linter.unusedVariables false
namespace Go.Tm
open Go.Ab
def Ok {A : Type} (x : Option A) (Q : A → Prop) : Prop := ∃ a, x = some a ∧ Q a
theorem z3v {A : Type} {a : A} {Q : A → Prop} (h : Q a) : Ok (some a) Q := ⟨a, rfl, h⟩
theorem z18k {A : Type} {x : Option A} {Q R : A → Prop} (h : Ok x R) (g : ∀ a, R a → Q a) : Ok x Q := by
 obtain ⟨a, h1, h2⟩ := h
 exact ⟨a, h1, g a h2⟩
theorem z1qw {A B : Type} {x : Option A} {f : A → Option B} {Q : B → Prop} (h : Ok x fun a => Ok (f a) Q) : Ok (x.bind f) Q := by
 obtain ⟨a, h1, h2⟩ := h
 rw [h1]; exact h2
theorem z18t {A B : Type} {x : Option A} {f : A → Option B} {Q : B → Prop} {R : A → Prop} (h : Ok x R) (g : ∀ a, R a → Ok (f a) Q) : Ok (x.bind f) Q := z1qw (z18k h g)
theorem ok_eq {A B : Type} {x : Option A} {a : A} {f : A → Option B} {Q : B → Prop} (h : x = some a) (g : Ok (f a) Q) : Ok (x.bind f) Q := by rw [h]; exact g
theorem zrt {A : Type} {x y : Option A} {Q : A → Prop} (h : Ok x Q) : Ok (bif true then x else y) Q := h
theorem zbh {A : Type} {x y : Option A} {Q : A → Prop} (h : Ok y Q) : Ok (bif false then x else y) Q := h
theorem ok_lt {A : Type} {a b : Int} {x y : Option A} {Q : A → Prop} (h : a < b → Ok x Q) (g : ¬ a < b → Ok y Q) : Ok (bif ltI a b then x else y) Q := by
 by_cases e : a < b
 · rw [ltI_t e]; exact h e
 · rw [ltI_f e]; exact g e
theorem z1my {A : Type} {a b : Int} {x y : Option A} {Q : A → Prop} (h : a = b → Ok x Q) (g : ¬ a = b → Ok y Q) : Ok (bif eqI a b then x else y) Q := by
 by_cases e : a = b
 · rw [eqI_t e]; exact h e
 · rw [eqI_f e]; exact g e
theorem z1sn {A : Type} {n m : Nat} {x y : Option A} {Q : A → Prop} (e : n = m) (h : Ok x Q) : Ok (bif Nat.beq n m then x else y) Q := by rw [beq_t e]; exact h
theorem z1h5 {A : Type} {n : Nat} {k : Option A} {Q : A → Prop} (e : n ≤ 9223372036854775807) (h : Ok k Q) : Ok (z0f n k) Q := by rw [z0p e]; exact h
theorem z1so {A : Type} {n m nb : Nat} {k : Unit → Option A} {Q : A → Prop} (e : (n + m) * nb ≤ 140737488355328) (h : Ok (k ()) Q) : Ok (appG n m nb k) Q := by rw [z8f e]; exact h
theorem z10v {A B : Type} {l : List B} {k : List B → Option A} {Q : A → Prop} (h : Ok (k l) Q) : Ok (winK l 0 l.length k) Q := by rw [z2t]; exact h
theorem z1sq {A B : Type} {l : List B} {i : Nat} {f : B → Option A} {Q : A → Prop} (e : i < l.length) (h : Ok (f l[i]) Q) : Ok ((idxI l (i : Int)).bind f) Q := by rw [zsu e]; exact h
theorem z1ia {A B C : Type} {y : A} {f : A → Option C} {g : B → Option C} {Q : C → Prop} (h : Ok (f y) Q) : Ok (Sum.elim f g (Sum.inl y)) Q := h
theorem z1cf {A B C : Type} {y : B} {f : A → Option C} {g : B → Option C} {Q : C → Prop} (h : Ok (g y) Q) : Ok (Sum.elim f g (Sum.inr y)) Q := h
def Rnd {S X : Type} (I : S → Prop) (Q : X → Prop) : S ⊕ X → Prop
 | .inl s => I s
 | .inr x => Q x
theorem z18o {S X : Type} {I : S → Prop} {Q : X → Prop} {s : S} (h : I s) : Rnd I Q (.inl s : S ⊕ X) := h
theorem zm0 {S X : Type} {I : S → Prop} {Q : X → Prop} {x : X} (h : Q x) : Rnd I Q (.inr x : S ⊕ X) := h
theorem z1qy {S X : Type} {F : S → Option (S ⊕ X)} {s : S} {Q : X → Prop} (n : Nat) (I : Nat → S → Prop) (h0 : I 0 s)
   (step : ∀ i s, i ≤ n → I i s → Ok (F s) (Rnd (fun s' => i < n ∧ I (i + 1) s') Q)) : Ok (loopC F s) Q := by
 have key : ∀ k i s, i + k = n → I i s → Ok (loopC F s) Q := by
   intro k
   induction k with
   | zero =>
     intro i s hi h
     obtain ⟨r, h1, h2⟩ := step i s (by omega) h
     rw [z2i, h1]
     cases r with
     | inl s' => have : i < n ∧ I (i + 1) s' := h2; omega
     | inr x => exact ⟨x, rfl, h2⟩
   | succ k ih =>
     intro i s hi h
     obtain ⟨r, h1, h2⟩ := step i s (by omega) h
     rw [z2i, h1]
     cases r with
     | inl s' => exact ih (i + 1) s' (by omega) h2.2
     | inr x => exact ⟨x, rfl, h2⟩
 exact key n 0 s (by omega) h0
theorem z1c9 {S X A : Type} {F : S → Option (S ⊕ X)} {s : S} {Q : X → Prop} (n : Nat) (st : Nat → A → S) (I : Nat → A → Prop) (a : A) (hs : s = st 0 a) (h0 : I 0 a)
   (last : ∀ a, I n a → Ok (F (st n a)) (Rnd (fun _ => False) Q)) (step : ∀ i a, i < n → I i a → Ok (F (st i a)) (Rnd (fun s' => ∃ a', s' = st (i + 1) a' ∧ I (i + 1) a') Q)) : Ok (loopC F s) Q := by
 subst hs
 refine z1qy n (fun i s => ∃ a, s = st i a ∧ I i a) ⟨a, rfl, h0⟩ fun i s hi ⟨a, e, hI⟩ => ?_
 subst e
 by_cases hn : i = n
 · subst hn
   refine z18k (last a hI) fun r hr => ?_
   cases r with
   | inl s' => exact hr.elim
   | inr x => exact hr
 · refine z18k (step i a (by omega) hI) fun r hr => ?_
   cases r with
   | inl s' => exact ⟨by omega, hr⟩
   | inr x => exact hr
theorem zbf {n : Nat} (h : n < 9223372036854775807) : W64 ((n : Int) + 1) = ((n + 1 : Nat) : Int) := by rw [z1t (by omega)]; rfl
theorem qs {A : Type} {n : Nat} {k : Option A} {Q : A → Prop} (h : Ok k Q) (e : n ≤ 9223372036854775807 := by omega) : Ok (z0f n k) Q := z1h5 e h
theorem qb {A : Type} {n m : Nat} {x y : Option A} {Q : A → Prop} (h : Ok x Q) (e : n = m := by first | rfl | omega | (simp only [List.length_set, List.length_append, List.length_cons, List.length_nil, List.length_replicate, List.length_take, List.length_drop, List.length_map, Int.toNat_natCast] <;> omega)) : Ok (bif Nat.beq n m then x else y) Q := z1sn e h
theorem qa {A : Type} {n m nb : Nat} {k : Unit → Option A} {Q : A → Prop} (h : Ok (k ()) Q) (e : (n + m) * nb ≤ 140737488355328 := by first | omega | (simp only [List.length_set, List.length_append, List.length_cons, List.length_nil, List.length_replicate, List.length_take, List.length_drop, List.length_map, Int.toNat_natCast] <;> omega)) : Ok (appG n m nb k) Q := z1so e h
theorem qx {A B : Type} {l : List B} {i : Nat} {f : B → Option A} {Q : A → Prop} (e : i < l.length := by first | omega | (simp only [List.length_set, List.length_append, List.length_cons, List.length_nil, List.length_replicate, List.length_take, List.length_drop, List.length_map, Int.toNat_natCast] <;> omega)) (h : Ok (f l[i]) Q) : Ok ((idxI l (i : Int)).bind f) Q := z1sq e h
end Go.Tm
set_option linter.unusedSimpArgs false
set_option linter.unusedVariables false
namespace Go.Tm
open Go.Ab Go.Lib
end Go.Tm
set_option linter.unusedSimpArgs false
set_option linter.unusedVariables false
namespace Go.Tm
open Go.Ab
end Go.Tm
set_option linter.unusedSimpArgs false
set_option linter.unusedVariables false
namespace Go.Tm
open Go.Ab Go.RowKit Go.Sort Go.Proofs Go.Shelf
theorem noTk {w : World} {c : Cx} {H : List AObj} (g : Ab.Good w c H []) (i k j : Nat) : ¬ c.T[i]? = some (some (k, j)) := by rw [Ab.noT g]; simp
theorem z1fs {w w' : World} {c : Cx} {H : List AObj} (g : Ab.Good w c H []) (hb : Go.RowKit.Below w.heap.size w w') (o : Option Nat) (hok : ∀ k, o = some k → w.heap.size ≤ k) (X : AObj) (hobj : ObjC w' { c with m := c.m ++ [o] } H.length X) :
   Ab.Good w' { c with m := c.m ++ [o] } (H ++ [X]) [] ∧ Ext w c w' { c with m := c.m ++ [o] } := by
 have ids : ∀ b k : Nat, c.m[b]? = some (some k) → (c.m ++ [o])[b]? = some (some k) := fun b k h => by
   rw [List.getElem?_append_left (List.getElem?_eq_some_iff.1 h).1]; exact h
 have back : ∀ i k : Nat, (c.m ++ [o])[i]? = some (some k) → c.m[i]? = some (some k) ∨ (i = c.m.length ∧ o = some k) := fun i k h => by
   rcases Nat.lt_or_ge i c.m.length with hi | hi
   · rw [List.getElem?_append_left hi] at h; exact .inl h
   · rw [List.getElem?_append_right hi] at h
     cases hz : i - c.m.length with
     | zero => rw [hz] at h; exact .inr ⟨by omega, by simpa using h⟩
     | succ n => rw [hz] at h; simp at h
 have x : Ext w c w' { c with m := c.m ++ [o] } := Ext.of_grow _ hb.os hb.tape hb.output hb.size hb.block ids (fun k h => by
   rcases List.mem_append.1 h with h | h
   · exact .inl h
   · exact .inr (hok k (List.mem_singleton.1 h).symm)) (fun i k j h => absurd h (noTk g i k j))
 refine ⟨⟨by simp [g.len], fun i j k hi hj => ?_, fun b ob h => ?_, g.tl, fun i h => by simp at h, fun i h => by simp at h, fun i k j h => absurd h (noTk g i k j), g.tinj, fun k e h => g.okn k e (Nat.le_trans hb.size h), g.okm, g.okt, fun b k hb' h e => ?_, g.gl.ext x⟩, x⟩
 · rcases back i k hi with hi | ⟨ei, ek⟩ <;> rcases back j k hj with hj | ⟨ej, ek'⟩
   · exact g.inj i j k hi hj
   · have := ObjC.lt g hi; have := hok k ek'; omega
   · have := ObjC.lt g hj; have := hok k ek; omega
   · omega
 · rcases Nat.lt_or_ge b H.length with hlt | hge
   · rw [List.getElem?_append_left hlt] at h
     refine (g.obj b ob h).pass x (fun k h1 => ⟨ids _ _ h1, hb.block k (ObjC.lt g h1)⟩) fun ho => ?_
     show (c.m ++ [o])[b]? = some none
     rw [List.getElem?_append_left (by rw [g.len]; exact hlt)]; exact ho
   · rw [List.getElem?_append_right hge] at h
     cases hz : b - H.length with
     | zero =>
       rw [hz] at h
       have e1 : b = H.length := by omega
       subst e1
       simp at h; subst h; exact hobj
     | succ n => rw [hz] at h; simp at h
 · rcases back b k h with hk | ⟨_, ek⟩
   · exact g.oko b k hb' hk e
   · exact g.okn k e (hok k ek)
end Go.Tm
set_option linter.unusedSimpArgs false
set_option linter.unusedVariables false
namespace Go.Tm
open Go.Ab
def Kinds (w w' : World) : Prop := ∀ (k : Nat) (vs : Array Value) (e : TypeId) (fr : Nat × Nat), w.heap[k]? = some (Obj.cells vs e fr) → ∃ (vs' : Array Value) (fr' : Nat × Nat), w'.heap[k]? = some (Obj.cells vs' e fr') ∧ vs'.size = vs.size
structure Host (P : Program) (E : Type) where
 l : Nat
 K0 : Nat → Nat → Prop
 X : Nat → Prop
 N : Nat → Prop
 n0 : Nat
 emb : E → List TV
 dec : List E → Option Bool
 J : List E → World → Cx → List AObj → Prop
 new : ∀ k, n0 ≤ k → N k
 gbn : gb ≤ n0
 stay : ∀ tr w (cb : Cx) Hb w' ok', J tr w cb Hb → n0 ≤ w.heap.size → Foreign (fun k => N k ∧ ¬ cb.own k ∧ ¬ X k) w w' → Kinds w w' → Sees w cb w' { cb with ok := ok' } → Ab.Good w' { cb with ok := ok' } Hb [] → J tr w' { cb with ok := ok' } Hb
 yield : ∀ (tr : List E) (x : E) (b : Bool) (vs : Array Value) w cb Hb ci Hi, dec (tr ++ [x]) = some b → Two K0 X w cb Hb ci Hi → J tr w cb Hb → n0 ≤ w.heap.size → (∀ k, ci.own k → N k) → vs.size = (emb x).length → TV.wfs (emb x) → VRs w ci ((emb x).map TV.pv) (fun i => vs[i]?) →
   YieldAt (Wd none) 0 P l vs w fun e w' => e = .returned (.bool b) ∧ ∃ cb' Hb', Foreign (fun k => cb.own k ∨ X k) w w' ∧ Grows w cb.own cb'.own ∧ cb'.ok = cb.ok ∧ Ab.Good w' cb' Hb' [] ∧ J (tr ++ [x]) w' cb' Hb'
structure Inv {P : Program} {E : Type} (h : Host P E) (ro : Option Nat) (ds : List Nat) (tr : List E) (w : World) (c : Cx) (H : List AObj) : Prop where
 ex : ∃ cb Hb, Two h.K0 h.X w cb Hb c H ∧ h.J tr w cb Hb ∧ (∀ D, D ∈ ds → some D ∉ cb.m) ∧ ∀ l, ro = some l → some l ∉ cb.m
 n : ∀ k, c.own k → h.N k
 n0 : h.n0 ≤ w.heap.size
 nd : ds.Nodup
 d : ∀ D, D ∈ ds → h.n0 ≤ D ∧ w.heap[D]? = some (.deferred (some [])) ∧ some D ∉ c.m ∧ ¬ h.X D
 r : ∀ l, ro = some l → ¬ h.X l ∧ some l ∉ c.m ∧ ∃ r, w.heap[l]? = some (.loop r)
theorem Inv.recok {P : Program} {E : Type} {h : Host P E} {ro : Option Nat} {ds : List Nat} {tr : List E} {w : World} {c : Cx} {H : List AObj} (i : Inv h ro ds tr w c H) : RecOK ro w c := by
 cases ro with
 | none => trivial
 | some l => exact (i.r l rfl).2
theorem Host.own {P : Program} {E : Type} (h : Host P E) {tr : List E} {w w' : World} {cb ci ci' : Cx} {Hb H H' : List AObj} {p : Nat} (two : Two h.K0 h.X w cb Hb ci H) (hJ : h.J tr w cb Hb) (hn : ∀ k, ci.own k → h.N k) (h0 : h.n0 ≤ w.heap.size) (x : ExtP p w ci w' ci') (g : Ab.Good w' ci' H' []) :
   h.J tr w' { cb with ok := fun k e => h.K0 k e ∧ ¬ (ci'.own k ∨ h.X k) } Hb := by
 obtain ⟨t2, s2, _⟩ := two.iter x g
 refine h.stay tr w cb Hb w' _ hJ h0 ⟨x.os, x.tape, x.output, x.size, fun k hk hm => x.blocks k hk fun ho => hm ⟨hn k ho, fun hb => two.apart k hb ho, fun hX => two.xi k hX ho⟩⟩ x.room s2 t2.b
theorem Inv.step {P : Program} {E : Type} {h : Host P E} {ro : Option Nat} {ds : List Nat} {tr : List E} {w w' : World} {c c' : Cx} {H H' : List AObj} {p : Nat} (i : Inv h ro ds tr w c H) (x : ExtP p w c w' c') (g : Ab.Good w' c' H' []) : Inv h ro ds tr w' c' H' := by
 obtain ⟨⟨cb, Hb, two, hJ, hd, hr⟩, hn, h0, nd, d, r⟩ := i
 have keep : ∀ k, k < w.heap.size → some k ∉ c.m → w'.heap[k]? = w.heap[k]? ∧ some k ∉ c'.m := fun k hk hm => ⟨x.blocks k hk hm, fun h' => (x.new k h').elim hm fun h2 => absurd hk (Nat.not_lt.2 h2)⟩
 refine ⟨⟨_, Hb, (two.iter x g).1, h.own two hJ hn h0 x g, hd, hr⟩, fun k hk => (x.new k hk).elim (hn k) fun h' => h.new k (Nat.le_trans h0 h'), Nat.le_trans h0 x.size, nd, fun D hD => ?_, fun l hl => ?_⟩
 · obtain ⟨h1, h2, h3, h4⟩ := d D hD
   obtain ⟨k1, k2⟩ := keep D (Array.getElem?_eq_some_iff.1 h2).1 h3
   exact ⟨h1, k1.trans h2, k2, h4⟩
 · obtain ⟨h1, h2, rr, h3⟩ := r l hl
   obtain ⟨k1, k2⟩ := keep l (Array.getElem?_eq_some_iff.1 h3).1 h2
   exact ⟨h1, k2, rr, k1.trans h3⟩
theorem Inv.marks {P : Program} {E : Type} {h : Host P E} {ro : Option Nat} {ds : List Nat} {tr : List E} {w w' : World} {c c' : Cx} {H H' : List AObj} {p : Nat} {d' : List Deferred} (i : Inv h ro ds tr w c H) (x : ExtP p w c w' c') (g : Ab.Good w' c' H' []) (m : Mk w w' c' (ds.map mark) d') :
   ∃ ds', d' = ds'.map mark ∧ Inv h ro ds' tr w' c' H' := by
 obtain ⟨l, e, nd, hl⟩ := m
 have j := i.step x g
 obtain ⟨⟨cb, Hb, two, hJ, hd, hr⟩, hn, h0, nd0, d, r⟩ := i
 have hlt : ∀ D, D ∈ ds → D < w.heap.size := fun D hD => (Array.getElem?_eq_some_iff.1 (d D hD).2.1).1
 obtain ⟨⟨cb2, Hb2, two2, hJ2, hd2, hr2⟩, hn2, h02, nd2, d2, r2⟩ := j
 refine ⟨l ++ ds, by rw [e, List.map_append], ⟨_, Hb, (two.iter x g).1, h.own two hJ hn h0 x g, fun D hD => ?_, hr⟩, hn2, h02, List.nodup_append.2 ⟨nd, nd0, fun a ha b hb e => ?_⟩, fun D hD => ?_, r2⟩
 · rcases List.mem_append.1 hD with hD | hD
   · exact fun hm => absurd (two.own_b hm).1 (Nat.not_lt.2 (hl D hD).1)
   · exact hd D hD
 · subst e; exact absurd (hlt a hb) (Nat.not_lt.2 (hl a ha).1)
 · rcases List.mem_append.1 hD with hD | hD
   · obtain ⟨h1, h2, h3⟩ := hl D hD
     exact ⟨Nat.le_trans h0 h1, h2, h3, fun hx => absurd (two.xlt D hx) (Nat.not_lt.2 h1)⟩
   · exact d2 D hD
def YAW (P : Program) {E : Type} (h : Host P E) (ro : Option Nat) (x : Code) (tr : List E) (σ : TS) (Q : Exit → List E → TS → Prop) : Prop :=
 ∀ c ds a w (Q' : Exit → Act → World → Prop), RelT w c σ a → σ.wf → Inv h ro ds tr w c σ.flat.H → a.defers = ds.map mark →
   (∀ e c' ds' a' w' σ' tr', Q e tr' σ' → σ'.wf → RelT w' c' σ' a' → Inv h ro ds' tr' w' c' σ'.flat.H → a'.defers = ds'.map mark → Q' e a' w') → x.wpIn (Wd ro) 0 P Q' a w
theorem YAW.of {P : Program} {E : Type} {h : Host P E} {ro : Option Nat} {x : Code} {tr : List E} {σ : TS} {Q : Exit → TS → Prop} (ht : TAW P x σ Q) : YAW P h ro x tr σ (fun e tr' σ' => tr' = tr ∧ Q e σ') := by
 intro c ds a w Q' hr hw hi hds hK
 refine ht c a w Q' hr hw (fun e c' a' w' σ' hQ hw' hr' hx hd => ?_) ro hi.recok
 rw [hds] at hd
 obtain ⟨ds', e1, i'⟩ := hi.marks hx hr'.2.1 hd
 exact hK e c' ds' a' w' σ' tr ⟨rfl, hQ⟩ hw' hr' i' e1
theorem YAW.mono {P : Program} {E : Type} {h : Host P E} {ro : Option Nat} {x : Code} {tr : List E} {σ : TS} {Q R : Exit → List E → TS → Prop} (ht : YAW P h ro x tr σ Q) (hq : ∀ e t σ, Q e t σ → R e t σ) : YAW P h ro x tr σ R :=
 fun c ds a w Q' hr hw hi hds hK => ht c ds a w Q' hr hw hi hds fun e c' ds' a' w' σ' tr' hQ => hK e c' ds' a' w' σ' tr' (hq _ _ _ hQ)
theorem YAW.wk {P : Program} {E : Type} {h : Host P E} {ro : Option Nat} {x : Code} {tr : List E} {σ σ2 : TS} {Q : Exit → List E → TS → Prop} (hk : Wk σ σ2) (ht : YAW P h ro x tr σ2 Q) : YAW P h ro x tr σ Q := by
 intro c ds a w Q' hr hw hi hds hK
 obtain ⟨c2, hr2, hx⟩ := hk.2 w c a hr
 exact ht c2 ds a w Q' hr2 hk.1 (hi.step (hx w c (ExtP.refl _ _ _)) hr2.2.1) hds hK
def ythn {E : Type} (N : List E → TS → Prop) (Q : Exit → List E → TS → Prop) : Exit → List E → TS → Prop
 | .normal, tr, σ => N tr σ
 | e, tr, σ => Q e tr σ
theorem YAW.seq {P : Program} {E : Type} {h : Host P E} {ro : Option Nat} {x y : Code} {tr : List E} {σ : TS} {Q : Exit → List E → TS → Prop} (ht : YAW P h ro x tr σ (ythn (fun tr' σ' => YAW P h ro y tr' σ' Q) Q)) : YAW P h ro (.seq x y) tr σ Q := by
 intro c ds a w Q' hr hw hi hds hK
 refine wpIn_seq (ht c ds a w _ hr hw hi hds fun e c' ds' a' w' σ' tr' hQ hw' hr' hi' hd => ?_)
 cases e <;> first | exact hK _ c' ds' a' w' σ' tr' hQ hw' hr' hi' hd | skip
 exact hQ c' ds' a' w' _ hr' hw' hi' hd hK
def z1gn {E : Type} (id : Nat) (Q : Exit → List E → TS → Prop) : Exit → List E → TS → Prop
 | .exit id', tr, σ => bif Nat.beq id' id then Q .normal tr σ else Q (.exit id') tr σ
 | e, tr, σ => Q e tr σ
theorem YAW.block {P : Program} {E : Type} {h : Host P E} {ro : Option Nat} {id : Nat} {x : Code} {tr : List E} {σ : TS} {Q : Exit → List E → TS → Prop} (ht : YAW P h ro x tr σ (z1gn id Q)) : YAW P h ro (.block id x) tr σ Q := by
 intro c ds a w Q' hr hw hi hds hK
 refine wpIn_block (ht c ds a w _ hr hw hi hds fun e c' ds' a' w' σ' tr' hQ hw' hr' hi' hd => ?_)
 cases e with
 | exit id' =>
   simp only [z1gn] at hQ
   simp only [Exit.inBlock]
   split
   · rename_i e
     have : Nat.beq id' id = true := by rw [e]; exact Nat.beq_refl id
     rw [this] at hQ; exact hK _ c' ds' a' w' σ' tr' hQ hw' hr' hi' hd
   · rename_i e
     have : Nat.beq id' id = false := by
       cases hb : Nat.beq id' id with
       | false => rfl
       | true => exact absurd (Nat.eq_of_beq_eq_true hb) e
     rw [this] at hQ; exact hK _ c' ds' a' w' σ' tr' hQ hw' hr' hi' hd
 | _ => exact hK _ c' ds' a' w' σ' tr' hQ hw' hr' hi' hd
def yNoGo {E : Type} (Q : Exit → List E → TS → Prop) : Exit → List E → TS → Prop
 | .goto _, _, _ => False
 | e, tr, σ => Q e tr σ
theorem YAW.scope {P : Program} {E : Type} {h : Host P E} {ro : Option Nat} {x : Code} {tr : List E} {σ : TS} {Q : Exit → List E → TS → Prop} (ht : YAW P h ro x tr σ (yNoGo Q)) : YAW P h ro (.scope x) tr σ Q := by
 intro c ds a w Q' hr hw hi hds hK
 refine z1c5 (ht c ds a w _ hr hw hi hds fun e c' ds' a' w' σ' tr' hQ hw' hr' hi' hd => ?_)
 cases e <;> first | exact hQ.elim | exact hK _ c' ds' a' w' σ' tr' hQ hw' hr' hi' hd
theorem YAW.cond {P : Program} {E : Type} {h : Host P E} {ro : Option Nat} {x : Operand} {t e : Code} {tr : List E} {σ : TS} {Q : Exit → List E → TS → Prop} {b : Bool} (hc : σ.eval x = .v .bool b) (ht : YAW P h ro (if b then t else e) tr σ Q) : YAW P h ro (.cond x t e) tr σ Q := by
 intro c ds a w Q' hr hw hi hds hK
 have he := hr.2.2.eval x
 rw [z0i hc (by simp)] at he
 simp only [TV.pv, pvU, VR] at he
 exact wpIn_cond he.1 (ht c ds a w Q' hr hw hi hds hK)
def YLoop (P : Program) {E : Type} (h : Host P E) (ro : Option Nat) (x : Code) (tr : List E) (σ : TS) (Q : Exit → List E → TS → Prop) : Prop :=
 ∀ c ds a w (Q' : Exit → Act → World → Prop), RelT w c σ a → σ.wf → Inv h ro ds tr w c σ.flat.H → a.defers = ds.map mark →
   (∀ e c' ds' a' w' σ' tr', Q e tr' σ' → σ'.wf → RelT w' c' σ' a' → Inv h ro ds' tr' w' c' σ'.flat.H → a'.defers = ds'.map mark → Q' e a' w') →
   ∀ (b : Frame) (k : List Go.Item) (cs : List Frame), b.roundOf = ro → ∃ e a2 w2, Q' e a2 w2 ∧ ArrivesIn (Machine.fenced P (Wd ro)) P (lone (b.atR a (.code x :: .inLoop x :: k)) cs w) b k cs e a2 w2
theorem YLoop.step {P : Program} {E : Type} {h : Host P E} {ro : Option Nat} {x : Code} {tr : List E} {σ : TS} {Q : Exit → List E → TS → Prop} (ht : YAW P h ro x tr σ (ythn (fun tr' σ' => YLoop P h ro x tr' σ' Q) Q)) : YLoop P h ro x tr σ Q := by
 intro c ds a w Q' hrel hw hi hds hK b k cs hro
 obtain ⟨e, a1, w1, hq, harr⟩ := (ht c ds a w
   (Exit.then (fun a2 w2 => ∃ σ2 tr2 c2 ds2, YLoop P h ro x tr2 σ2 Q ∧ σ2.wf ∧ RelT w2 c2 σ2 a2 ∧ Inv h ro ds2 tr2 w2 c2 σ2.flat.H ∧ a2.defers = ds2.map mark) Q') hrel hw hi hds (fun e c2 ds2 a2 w2 σ2 tr2 hQ hw2 hr2 hi2 hd2 => by
   cases e with
   | normal => exact ⟨σ2, tr2, c2, ds2, hQ, hw2, hr2, hi2, hd2⟩
   | exit id => exact hK _ c2 ds2 a2 w2 σ2 tr2 hQ hw2 hr2 hi2 hd2
   | goto l => exact hK _ c2 ds2 a2 w2 σ2 tr2 hQ hw2 hr2 hi2 hd2
   | ret => exact hK _ c2 ds2 a2 w2 σ2 tr2 hQ hw2 hr2 hi2 hd2
   | panic ch => exact hK _ c2 ds2 a2 w2 σ2 tr2 hQ hw2 hr2 hi2 hd2
   | outgrown => exact hK _ c2 ds2 a2 w2 σ2 tr2 hQ hw2 hr2 hi2 hd2)) b (.inLoop x :: k) cs hro trivial (z1jn _ _)
 cases e with
 | normal =>
   obtain ⟨σ2, tr2, c2, ds2, hL, hw2, hr2, hi2, hd2⟩ := hq
   obtain ⟨e2, a2, w2, hq2, harr2⟩ := hL c2 ds2 a1 w1 Q' hr2 hw2 hi2 hd2 hK b k cs hro
   have h1 : StepsIn (Machine.fenced P (Wd ro)) P (lone (b.atR a (.code x :: .inLoop x :: k)) cs w) (lone (b.atR a1 (.inLoop x :: k)) cs w1) := harr
   have h2 : StepsIn (Machine.fenced P (Wd ro)) P (lone (b.atR a1 (.inLoop x :: k)) cs w1) (lone (b.atR a1 (.code x :: .inLoop x :: k)) cs w1) := .one (zby ro P _) stepR_inLoop
   exact ⟨e2, a2, w2, hq2, .of_steps (h1.trans h2) harr2⟩
 | exit id => exact ⟨_, a1, w1, hq, .pass (x := .inLoop x) rfl (fun _ _ => .inl (by simp)) harr⟩
 | goto l => exact ⟨_, a1, w1, hq, .pass (x := .inLoop x) rfl (fun _ _ => .inl (by simp)) harr⟩
 | ret => exact ⟨_, a1, w1, hq, .pass (x := .inLoop x) rfl (fun _ _ => .inl (by simp)) harr⟩
 | panic ch => exact ⟨_, a1, w1, hq, .pass (x := .inLoop x) rfl (fun _ _ => .inl (by simp)) harr⟩
 | outgrown => exact ⟨_, a1, w1, hq, .pass (x := .inLoop x) rfl (fun _ _ => .inl (by simp)) harr⟩
theorem YLoop.wk {P : Program} {E : Type} {h : Host P E} {ro : Option Nat} {x : Code} {tr : List E} {σ σ2 : TS} {Q : Exit → List E → TS → Prop} (hk : Wk σ σ2) (ht : YLoop P h ro x tr σ2 Q) : YLoop P h ro x tr σ Q := by
 intro c ds a w Q' hr hw hi hds hK
 obtain ⟨c2, hr2, hx⟩ := hk.2 w c a hr
 exact ht c2 ds a w Q' hr2 hk.1 (hi.step (hx w c (ExtP.refl _ _ _)) hr2.2.1) hds hK
theorem YLoop.loop {P : Program} {E : Type} {h : Host P E} {ro : Option Nat} {x : Code} {tr : List E} {σ : TS} {Q : Exit → List E → TS → Prop} (ht : YLoop P h ro x tr σ Q) : YAW P h ro (.loop x) tr σ Q := by
 intro c ds a w Q' hrel hw hi hds hK b k cs hro _ _
 obtain ⟨e, a2, w2, hq, harr⟩ := ht c ds a w Q' hrel hw hi hds hK b k cs hro
 exact ⟨e, a2, w2, hq, .of_steps (.one (zby ro P _) stepR_loop) harr⟩
theorem z1lw {P : Program} {o : Oper} {l : Nat} {fo : Operand} {xs : Array Operand} {ats : Array TypeId} {ρ : Operand → Value} (ho : o.op = .call { callee := .value fo, args := xs, argTypes := ats })
   (hρ : ρ fo = .func (.yield l) #[] #[]) (w : World) {r : Result Next} (hr : (Instr.yield l (xs.map ρ)).run P w = r) : (execOp ρ o).run P w = r := by
 simp only [execOp, ho, resolve, hρ, Deferred.ofValue, Sem.run_bind, Sem.run_pure, Result.andThen_ok, invoke]
 simpa using hr
theorem z1ja {P : Program} {ro : Option Nat} {n l : Nat} {vs : Array Value} {w : World} {R : Ending → World → Prop} (h : YieldAt (Wd none) n P l vs w R) : YieldAt (Wd ro) n P l vs w R := h
theorem z1kv {P : Program} {E : Type} {h : Host P E} {ro : Option Nat} {o : Oper} {fo : Operand} {xs : Array Operand} {ats : Array TypeId} {tr : List E} {σ : TS} {x : E} {y : Bool} (ho : o.op = .call { callee := .value fo, args := xs, argTypes := ats })
   (hfo : σ.eval fo = .yl h.l) (hx : CLe ((xs.toList.map σ.eval).map TV.pv) ((h.emb x).map TV.pv)) (hxw : TV.wfs (h.emb x)) (hxl : (h.emb x).length = xs.toList.length) (hgo : h.dec (tr ++ [x]) = some y)
   {c : Cx} {ds : List Nat} {a : Act} {w : World} {K : Act → World → Prop} {Q' : Exit → Act → World → Prop} (hr : RelT w c σ a) (hw : σ.wf) (hi : Inv h ro ds tr w c σ.flat.H)
   (hK : ∀ c' a' w', RelT w' c' (σ.put o.dst (.v .bool y)) a' → Inv h ro ds (tr ++ [x]) w' c' (σ.put o.dst (.v .bool y)).flat.H → a'.defers = a.defers → K a' w') :
   o.wpIn (Wd ro) 0 P a w K Q' := by
 have hfv := hr.2.2.eval fo
 rw [z0i hfo (by simp)] at hfv
 simp only [TV.pv, VR] at hfv
 have hvs : VRs w c ((h.emb x).map TV.pv) (fun i => (xs.map a.eval)[i]?) := by
   have hgd : Gd w c := ⟨_, _, hr.2.1⟩
   refine zbd hgd hx (zbd hgd (zzj σ xs.toList) (z2d fun i p hi => ?_))
   rw [List.getElem?_map] at hi
   cases hxi : xs.toList[i]? with
   | none => rw [hxi] at hi; cases hi
   | some y =>
     rw [hxi] at hi; simp at hi; subst hi
     have hx' : xs[i]? = some y := by simpa using hxi
     exact ⟨a.eval y, by simp [hx'], hr.2.2.eval y⟩
 have hsz : (xs.map a.eval).size = (h.emb x).length := by rw [hxl]; simp
 obtain ⟨⟨cb, Hb, two, hJ, hd, hrr⟩, hn, h0, nd, d, r⟩ := hi
 obtain ⟨fn, tmps, assign, body, hy, hR⟩ := z1ja (ro := ro) (h.yield tr x y (xs.map a.eval) w cb Hb c _ hgo two hJ h0 hn hsz hxw hvs)
 refine ⟨fun _ _ => trivial, ?_⟩
 have hrun : (o.semAt (Wd ro).round a.eval).run P w = .ok (.round h.l fn tmps assign body) w := by
   rw [Oper.semAt_eq _ _ _ (fun d e => by rw [ho] at e; cases e)]
   exact z1lw ho hfv.1 w hy
 rw [hrun]
 refine ⟨fun h => by simp [Wd, Fence.wide] at h, hR.mono ?_⟩
 rintro e w' ⟨rfl, cb', Hb', f, hg, hok, g', hJ'⟩
 obtain ⟨t2, s2⟩ := two.round f hg hok g'
 have hr1 : RelT w' { c with ok := fun k e => h.K0 k e ∧ ¬ (cb'.own k ∨ h.X k) } σ a := by
   refine ⟨hr.1, t2.i, hr.2.2.1, fun t p hl ht => ?_⟩
   obtain ⟨v, h1, h2⟩ := hr.2.2.2 t p hl ht
   exact ⟨v, h1, VR.sees s2 _ h2⟩
 have hr2 := zlp (v := .bool y) (t := .v .bool y) o.dst hr1 (by simp only [TV.pv, pvU, VR]; exact ⟨trivial, rfl⟩)
 have e1 : (σ.put o.dst (.v .bool y)).flat.H = σ.flat.H := by
   simp only [TS.flat, (put_H _ _ _).1]
 have keep : ∀ k, k < w.heap.size → some k ∉ cb.m → ¬ h.X k → w'.heap[k]? = w.heap[k]? ∧ some k ∉ cb'.m := fun k hk hm hX => ⟨f.keep k hk fun h' => h'.elim hm hX, fun h' => (hg k h').elim hm fun h2 => absurd hk (Nat.not_lt.2 h2)⟩
 refine hK _ _ w' hr2 ⟨⟨cb', Hb', by rw [e1]; exact t2, hJ', fun D hD => ?_, fun l hl => ?_⟩, hn, Nat.le_trans h0 f.size, nd, fun D hD => ?_, fun l hl => ?_⟩ (Act.put_defers' _ _ _)
 · obtain ⟨h1, h2, h3, h4⟩ := d D hD
   exact (keep D (Array.getElem?_eq_some_iff.1 h2).1 (hd D hD) h4).2
 · obtain ⟨h1, h2, rr, h3⟩ := r l hl
   exact (keep l (Array.getElem?_eq_some_iff.1 h3).1 (hrr l hl) h1).2
 · obtain ⟨h1, h2, h3, h4⟩ := d D hD
   exact ⟨h1, (keep D (Array.getElem?_eq_some_iff.1 h2).1 (hd D hD) h4).1.trans h2, h3, h4⟩
 · obtain ⟨h1, h2, rr, h3⟩ := r l hl
   exact ⟨h1, h2, rr, (keep l (Array.getElem?_eq_some_iff.1 h3).1 (hrr l hl) h1).1.trans h3⟩
end Go.Tm