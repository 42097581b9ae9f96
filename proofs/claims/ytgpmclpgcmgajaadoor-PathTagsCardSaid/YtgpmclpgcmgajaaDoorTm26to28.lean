import Derived.Test.YtgpmclpgcmgajaaDoorTm21to25
import Derived.Lib.Bytealg
import Derived.Below
set_option linter.unusedSimpArgs false
set_option linter.unusedVariables false
namespace Go.Tm
open Go.Ab
def Ok {A : Type} (x : Option A) (Q : A → Prop) : Prop := ∃ a, x = some a ∧ Q a
theorem z2u {A : Type} {a : A} {Q : A → Prop} (h : Q a) : Ok (some a) Q := ⟨a, rfl, h⟩
theorem zpx {A : Type} {x : Option A} {Q R : A → Prop} (h : Ok x R) (g : ∀ a, R a → Q a) : Ok x Q := by
 obtain ⟨a, h1, h2⟩ := h
 exact ⟨a, h1, g a h2⟩
theorem za6 {A B : Type} {x : Option A} {f : A → Option B} {Q : B → Prop} (h : Ok x fun a => Ok (f a) Q) : Ok (x.bind f) Q := by
 obtain ⟨a, h1, h2⟩ := h
 rw [h1]; exact h2
theorem ok_is {A : Type} {x : Option A} {a : A} (h : Ok x fun r => r = a) : x = some a := by
 obtain ⟨b, h1, rfl⟩ := h
 exact h1
theorem ok_if {A : Type} {c : Bool} {x y : Option A} {Q : A → Prop} (h : c = true → Ok x Q) (g : c = false → Ok y Q) : Ok (bif c then x else y) Q := by
 cases c
 · exact g rfl
 · exact h rfl
theorem z9r {A : Type} {x y : Option A} {Q : A → Prop} (h : Ok x Q) : Ok (bif true then x else y) Q := h
theorem z7x {A : Type} {x y : Option A} {Q : A → Prop} (h : Ok y Q) : Ok (bif false then x else y) Q := h
theorem zcd {A : Type} {c : Bool} {x y : Option A} {Q : A → Prop} (h : Ok (bif c then y else x) Q) : Ok (bif !c then x else y) Q := by cases c <;> exact h
theorem ok_lt {A : Type} {a b : Int} {x y : Option A} {Q : A → Prop} (h : a < b → Ok x Q) (g : ¬ a < b → Ok y Q) : Ok (bif ltI a b then x else y) Q := by
 by_cases e : a < b
 · rw [ltI_t e]; exact h e
 · rw [ltI_f e]; exact g e
theorem ok_le {A : Type} {a b : Int} {x y : Option A} {Q : A → Prop} (h : a ≤ b → Ok x Q) (g : ¬ a ≤ b → Ok y Q) : Ok (bif leI a b then x else y) Q := by
 by_cases e : a ≤ b
 · rw [leI_t e]; exact h e
 · rw [leI_f e]; exact g e
theorem zcc {A : Type} {a b : Int} {x y : Option A} {Q : A → Prop} (h : a = b → Ok x Q) (g : ¬ a = b → Ok y Q) : Ok (bif eqI a b then x else y) Q := by
 by_cases e : a = b
 · rw [eqI_t e]; exact h e
 · rw [eqI_f e]; exact g e
theorem zbx {A : Type} {a b : Int} {x y : Option A} {Q : A → Prop} (h : ¬ a = b → Ok x Q) (g : a = b → Ok y Q) : Ok (bif neI a b then x else y) Q := by
 by_cases e : a = b
 · rw [neI_f e]; exact g e
 · rw [neI_t e]; exact h e
theorem zce {A : Type} {a b : List Int} {x y : Option A} {Q : A → Prop} (h : a = b → Ok x Q) (g : ¬ a = b → Ok y Q) : Ok (bif eqS a b then x else y) Q := by
 by_cases e : a = b
 · rw [eqS_t e]; exact h e
 · rw [eqS_f e]; exact g e
theorem ok_in {A : Type} {i : Int} {n : Nat} {x y : Option A} {Q : A → Prop} (e : 0 ≤ i ∧ i < n) (h : Ok x Q) : Ok (bif inI i n then x else y) Q := by rw [inI_t e]; exact h
theorem zxg {A : Type} {l h : Int} {n : Nat} {x y : Option A} {Q : A → Prop} (e : 0 ≤ l ∧ l ≤ h ∧ h ≤ n) (k : Ok x Q) : Ok (bif subOk l h n then x else y) Q := by rw [zfj e]; exact k
theorem zxe {A : Type} {n m : Nat} {x y : Option A} {Q : A → Prop} (e : n = m) (h : Ok x Q) : Ok (bif Nat.beq n m then x else y) Q := by rw [beq_t e]; exact h
theorem zx2 {A : Type} {n m : Nat} {x y : Option A} {Q : A → Prop} (e : n ≤ m) (h : Ok x Q) : Ok (bif Nat.ble n m then x else y) Q := by rw [ble_t e]; exact h
theorem zub {A : Type} {n : Nat} {k : Option A} {Q : A → Prop} (e : n ≤ 9223372036854775807) (h : Ok k Q) : Ok (z0q n k) Q := by rw [z8a e]; exact h
theorem zxb {A : Type} {n m nb : Nat} {k : Unit → Option A} {Q : A → Prop} (e : (n + m) * nb ≤ 140737488355328) (h : Ok (k ()) Q) : Ok (appG n m nb k) Q := by rw [zww e]; exact h
theorem zxc {A : Type} {a b : List Int} {k : Unit → Option A} {Q : A → Prop} (e : a.length + b.length ≤ 9223372036854775807) (h : Ok (k ()) Q) : Ok (catG a b k) Q := by rw [z7l e]; exact h
theorem zc8 {A B : Type} {l : List B} {k : List B → Option A} {Q : A → Prop} (h : Ok (k l) Q) : Ok (winK l 0 l.length k) Q := by rw [zv7]; exact h
theorem zu2 {A B : Type} {l : List B} {i n : Nat} {k : List B → Option A} {Q : A → Prop} (e : i + n ≤ l.length) (h : Ok (k ((l.drop i).take n)) Q) : Ok (winK l i n k) Q := by rw [zwy l i n e]; exact h
theorem zws {A B : Type} {l : List B} {i : Nat} {f : B → Option A} {Q : A → Prop} (e : i < l.length) (h : Ok (f l[i]) Q) : Ok ((l[i]?).bind f) Q := by rw [getE e]; exact h
theorem zsm {A B : Type} {l : List B} {i : Nat} {f : B → Option A} {Q : A → Prop} (e : i < l.length) (h : Ok (f l[i]) Q) : Ok ((idxI l (i : Int)).bind f) Q := by rw [zjg e]; exact h
theorem zvd {A B : Type} {l : List B} {f : B → Option A} {Q : A → Prop} (e : 0 < l.length) (h : Ok (f l[0]) Q) : Ok ((idxI l 0).bind f) Q := zsm (i := 0) e h
theorem zcg {A B C : Type} {y : A} {f : A → Option C} {g : B → Option C} {Q : C → Prop} (h : Ok (f y) Q) : Ok (Sum.elim f g (Sum.inl y)) Q := h
theorem zcb {A B C : Type} {y : B} {f : A → Option C} {g : B → Option C} {Q : C → Prop} (h : Ok (g y) Q) : Ok (Sum.elim f g (Sum.inr y)) Q := h
theorem zwp {A : Type} {u : U} {a b : u.T} {x y : Option A} {Q : A → Prop} (hu : u.cmp = true) (h : a = b → Ok x Q) (g : ¬ a = b → Ok y Q) : Ok (bif eqU u a b then x else y) Q := by
 cases e : eqU u a b with
 | true => exact h ((z9z hu).1 e)
 | false => exact g fun h => by rw [(z9z hu).2 h] at e; cases e
def Rnd {S X : Type} (I : S → Prop) (Q : X → Prop) : S ⊕ X → Prop
 | .inl s => I s
 | .inr x => Q x
theorem z9m {S X : Type} {I : S → Prop} {Q : X → Prop} {s : S} (h : I s) : Rnd I Q (.inl s : S ⊕ X) := h
theorem za2 {S X : Type} {I : S → Prop} {Q : X → Prop} {x : X} (h : Q x) : Rnd I Q (.inr x : S ⊕ X) := h
theorem zvt {S X : Type} {F : S → Option (S ⊕ X)} {s : S} {Q : X → Prop} (n : Nat) (I : Nat → S → Prop) (h0 : I 0 s)
   (step : ∀ i s, i ≤ n → I i s → Ok (F s) (Rnd (fun s' => i < n ∧ I (i + 1) s') Q)) : Ok (loopC F s) Q := by
 have key : ∀ k i s, i + k = n → I i s → Ok (loopC F s) Q := by
   intro k
   induction k with
   | zero =>
     intro i s hi h
     obtain ⟨r, h1, h2⟩ := step i s (by omega) h
     rw [zee, h1]
     cases r with
     | inl s' => have : i < n ∧ I (i + 1) s' := h2; omega
     | inr x => exact ⟨x, rfl, h2⟩
   | succ k ih =>
     intro i s hi h
     obtain ⟨r, h1, h2⟩ := step i s (by omega) h
     rw [zee, h1]
     cases r with
     | inl s' => exact ih (i + 1) s' (by omega) h2.2
     | inr x => exact ⟨x, rfl, h2⟩
 exact key n 0 s (by omega) h0
theorem zx8 {S X A : Type} {F : S → Option (S ⊕ X)} {s : S} {Q : X → Prop} (n : Nat) (st : Nat → A → S) (I : Nat → A → Prop) (a : A) (hs : s = st 0 a) (h0 : I 0 a)
   (last : ∀ a, I n a → Ok (F (st n a)) (Rnd (fun _ => False) Q)) (step : ∀ i a, i < n → I i a → Ok (F (st i a)) (Rnd (fun s' => ∃ a', s' = st (i + 1) a' ∧ I (i + 1) a') Q)) : Ok (loopC F s) Q := by
 subst hs
 refine zvt n (fun i s => ∃ a, s = st i a ∧ I i a) ⟨a, rfl, h0⟩ fun i s hi ⟨a, e, hI⟩ => ?_
 subst e
 by_cases hn : i = n
 · subst hn
   refine zpx (last a hI) fun r hr => ?_
   cases r with
   | inl s' => exact hr.elim
   | inr x => exact hr
 · refine zpx (step i a (by omega) hI) fun r hr => ?_
   cases r with
   | inl s' => exact ⟨by omega, hr⟩
   | inr x => exact hr
theorem zq4 {n : Nat} (h : n < 9223372036854775807) : W64 ((n : Int) + 1) = ((n + 1 : Nat) : Int) := by rw [zjd (by omega)]; rfl
theorem qs {A : Type} {n : Nat} {k : Option A} {Q : A → Prop} (h : Ok k Q) (e : n ≤ 9223372036854775807 := by omega) : Ok (z0q n k) Q := zub e h
theorem qb {A : Type} {n m : Nat} {x y : Option A} {Q : A → Prop} (h : Ok x Q) (e : n = m := by first | rfl | omega | (simp only [List.length_set, List.length_append, List.length_cons, List.length_nil, List.length_replicate, List.length_take, List.length_drop, List.length_map, Int.toNat_natCast] <;> omega)) : Ok (bif Nat.beq n m then x else y) Q := zxe e h
theorem qw {A B : Type} {l : List B} {i n : Nat} {k : List B → Option A} {Q : A → Prop} (h : Ok (k ((l.drop i).take n)) Q) (e : i + n ≤ l.length := by first | omega | (simp only [List.length_set, List.length_append, List.length_cons, List.length_nil, List.length_replicate, List.length_take, List.length_drop, List.length_map, Int.toNat_natCast] <;> omega)) : Ok (winK l i n k) Q := zu2 e h
theorem qi {A : Type} {i : Int} {n : Nat} {x y : Option A} {Q : A → Prop} (h : Ok x Q) (e : 0 ≤ i ∧ i < n := by first | omega | (simp only [List.length_set, List.length_append, List.length_cons, List.length_nil, List.length_replicate, List.length_take, List.length_drop, List.length_map, Int.toNat_natCast] <;> omega)) : Ok (bif inI i n then x else y) Q := ok_in e h
theorem qa {A : Type} {n m nb : Nat} {k : Unit → Option A} {Q : A → Prop} (h : Ok (k ()) Q) (e : (n + m) * nb ≤ 140737488355328 := by first | omega | (simp only [List.length_set, List.length_append, List.length_cons, List.length_nil, List.length_replicate, List.length_take, List.length_drop, List.length_map, Int.toNat_natCast] <;> omega)) : Ok (appG n m nb k) Q := zxb e h
theorem qc {A : Type} {a b : List Int} {k : Unit → Option A} {Q : A → Prop} (h : Ok (k ()) Q) (e : a.length + b.length ≤ 9223372036854775807 := by first | omega | (simp only [List.length_set, List.length_append, List.length_cons, List.length_nil, List.length_replicate, List.length_take, List.length_drop, List.length_map, Int.toNat_natCast] <;> omega)) : Ok (catG a b k) Q := zxc e h
theorem ql {A : Type} {n m : Nat} {x y : Option A} {Q : A → Prop} (h : Ok x Q) (e : n ≤ m := by first | omega | (simp only [List.length_set, List.length_append, List.length_cons, List.length_nil, List.length_replicate, List.length_take, List.length_drop, List.length_map, Int.toNat_natCast] <;> omega)) : Ok (bif Nat.ble n m then x else y) Q := zx2 e h
theorem qp {A : Type} {l h : Int} {n : Nat} {x y : Option A} {Q : A → Prop} (k : Ok x Q) (e : 0 ≤ l ∧ l ≤ h ∧ h ≤ n := by first | omega | (simp only [List.length_set, List.length_append, List.length_cons, List.length_nil, List.length_replicate, List.length_take, List.length_drop, List.length_map, Int.toNat_natCast] <;> omega)) : Ok (bif subOk l h n then x else y) Q := zxg e k
theorem qu {A : Type} {u : U} {a b : u.T} {x y : Option A} {Q : A → Prop} (h : a = b → Ok x Q) (g : ¬ a = b → Ok y Q) (hu : u.cmp = true := by with_unfolding_all exact rfl) : Ok (bif eqU u a b then x else y) Q := zwp hu h g
theorem qg {A B : Type} {l : List B} {i : Nat} {f : B → Option A} {Q : A → Prop} (e : i < l.length := by first | omega | (simp only [List.length_set, List.length_append, List.length_cons, List.length_nil, List.length_replicate, List.length_take, List.length_drop, List.length_map, Int.toNat_natCast] <;> omega)) (h : Ok (f l[i]) Q) : Ok ((l[i]?).bind f) Q := zws e h
theorem qx {A B : Type} {l : List B} {i : Nat} {f : B → Option A} {Q : A → Prop} (e : i < l.length := by first | omega | (simp only [List.length_set, List.length_append, List.length_cons, List.length_nil, List.length_replicate, List.length_take, List.length_drop, List.length_map, Int.toNat_natCast] <;> omega)) (h : Ok (f l[i]) Q) : Ok ((idxI l (i : Int)).bind f) Q := zsm e h
theorem qy {A B : Type} {l : List B} {f : B → Option A} {Q : A → Prop} (e : 0 < l.length := by first | omega | (simp only [List.length_set, List.length_append, List.length_cons, List.length_nil, List.length_replicate, List.length_take, List.length_drop, List.length_map, Int.toNat_natCast] <;> omega)) (h : Ok (f l[0]) Q) : Ok ((idxI l 0).bind f) Q := zvd e h
end Go.Tm
set_option linter.unusedSimpArgs false
set_option linter.unusedVariables false
namespace Go.Tm
open Go.Ab Go.Lib
theorem zx6 (s : List Int) : (ba s).data.toList.length = s.length := by unfold ba; simp
def zdn (s : List Int) (c : Int) : Int := indexByte (ba s).data.toList c.toNat.toUInt8
def zii (f : FuncId) : Ent where
 f := f
 ok := fun _ _ => true
 run := fun _ args k => match args with
   | [.v .str s, .v (.int .u8) c] => z0q (List.length s) (k (.v (.int .i64) (zdn s c)))
   | _ => none
theorem zo5 : ∀ (l : List UInt8) (c : UInt8), indexByte l c ≤ l.length
 | [], _ => by simp [indexByte]
 | b :: l, c => by
   have ih := zo5 l c
   unfold indexByte
   simp only [List.length_cons]
   split
   · omega
   · split <;> omega
theorem zpq {P : Program} {f : FuncId} {fn : Func} (hf : P.funcs[f]? = some fn) (hname : (fn.name == "runtime.NumGoroutine") = false) (hb : fn.body.isNone = true) (hn : Extern.findNext fn = none)
   (he : Extern.find fn = some Extern.BytealgIndexByte.indexByte) : EntOK P (zii f) := by
 intro R H args k r hH hw h
 simp only [zii] at h
 split at h
 · rename_i s c
   have hs : List.length s ≤ 9223372036854775807 ∧ k (.v (.int .i64) (zdn s c)) = some r := by
     unfold z0q at h
     cases hc : Nat.ble (List.length s) 9223372036854775807 with
     | false => rw [hc] at h; cases h
     | true => rw [hc] at h; exact ⟨Nat.le_of_ble_eq_true hc, h⟩
   have hle := zo5 (ba s).data.toList c.toNat.toUInt8
   have hge := indexByte_ge (ba s).data.toList c.toNat.toUInt8
   rw [zx6] at hle
   refine ⟨_, hs.2, ?_, .inl ⟨fn, _, [.string (ba s), .int .u8 c], _, hf, hname, hb, hn, he, rfl, rfl, rfl, fun w => run_indexByteString _ _ w⟩⟩
   simp only [TV.wf, wfU]
   unfold zdn
   generalize indexByte (ba s).data.toList c.toNat.toUInt8 = n at hle hge
   have h3 := hs.1
   exact ⟨show (-9223372036854775808 : Int) ≤ n by omega, show n ≤ (9223372036854775807 : Int) by omega⟩
 · cases h
end Go.Tm
set_option linter.unusedSimpArgs false
set_option linter.unusedVariables false
namespace Go.Tm
open Go.Ab
theorem vals1 {w : World} {c : Cx} {a : Value} {vs : Array Value} (hs : vs.size = 1) (h : VRs w c [.val a] (fun i => vs[i]?)) : vs = #[a] := by
 simp only [VRs, VR] at h
 obtain ⟨⟨v, h1, rfl, _⟩, _⟩ := h
 apply Array.ext (by simp [hs])
 intro i hi hi'
 have : i = 0 := by omega
 subst this
 have := (Array.getElem?_eq_some_iff.1 h1).2
 simpa using this
theorem vals2 {w : World} {c : Cx} {a b : Value} {vs : Array Value} (hs : vs.size = 2) (h : VRs w c [.val a, .val b] (fun i => vs[i]?)) : vs = #[a, b] := by
 simp only [VRs, VR] at h
 obtain ⟨⟨v, h1, rfl, _⟩, ⟨v', h2, rfl, _⟩, _⟩ := h
 apply Array.ext (by simp [hs])
 intro i hi hi'
 have g1 := (Array.getElem?_eq_some_iff.1 h1).2
 have g2 := (Array.getElem?_eq_some_iff.1 h2).2
 match i, hi with
 | 0, _ => simpa using g1
 | 1, _ => simpa using g2
 | n + 2, hi => omega
theorem zvj {w w' : World} {c : Cx} {H : List AObj} (g : Ab.Good w c H []) (x : Ext w c w' c) : ExtP 0 w c w' c where
 os := x.os
 tape := x.tape
 output := x.output
 size := x.size
 new := fun k h => .inl h
 blocks := fun k hk hm => x.blocks k hk hm fun i j h => by rw [Ab.noT g] at h; simp at h
 ok := rfl
 pn := rfl
 pin := fun b k _ h => h
 room := x.room
theorem zpi {w w' : World} {c : Cx} {H : List AObj} {ts : List Bool} (g : Ab.Good w c H ts) (h : Go.RowKit.Below w.heap.size w w') : Ab.Good w' c H ts ∧ Ext w c w' c :=
 zb5 g h.os h.tape h.output h.size h.block
def libX (B : U) : XS := XS.one .ret (Shp.mk 1 0 [(0, .d B)] []).xe
def libS (f : FuncId) (A : List Pat) (B : U) : Sig := ⟨f, A, [], 0, libX B⟩
def LibQ (P : Program) (f : FuncId) (qs : List PV) (p : PV) : Prop :=
 ∀ w c (vs : Array Value), Ab.Good w c [] [] → vs.size = qs.length → VRs w c qs (fun i => vs[i]?) →
   Calls P f vs w fun e w' => ∃ v, e = .returned v ∧ Go.RowKit.Below w.heap.size w w' ∧ (Ab.Good w' c [] [] → VR w' c p v)
theorem zlh {P : Program} {f : FuncId} {qs : List PV} {p : PV} {R : PV → List AObj → Prop} (h : LibQ P f qs p) (hR : R p []) : zsq P f 0 qs [] R := by
 intro w c vs g h0 hs hv
 refine (h w c vs g hs hv).mono ?_
 rintro e w' ⟨v, rfl, hb, hvr⟩
 obtain ⟨g', x⟩ := zpi g hb
 exact ⟨v, p, [], c, rfl, hR, g', hvr g', zvj g x⟩
theorem zkt {P : Program} {f : FuncId} {u B : U} {fn : u.T → Option B.T} (hc : z4o P f = true)
   (h : ∀ x y, fn x = some y → wfU u x → wfU B y ∧ LibQ P f [pvU u x] (pvU B y)) : FnOK P (libS f [.d u] B) fn where
 can := hc
 ret := fun x y hy hw _ => by
   have hx : wfU u x := by
     have := hw (.v u x) (List.mem_singleton.2 rfl)
     simpa only [TV.wf] using this
   refine ⟨?_, fun o ho => by cases ho⟩
   have := (h x y hy hx).1
   show TV.wf (.v B y)
   simpa only [TV.wf] using this
 calls := fun x y hy hw _ => by
   have hx : wfU u x := by
     have := hw (.v u x) (List.mem_singleton.2 rfl)
     simpa only [TV.wf] using this
   exact zlh (h x y hy hx).2 ⟨rfl, rfl⟩
 open' := fun R y k => rfl
theorem zl5 {P : Program} {f : FuncId} {u v B : U} {fn : u.T × v.T → Option B.T} (hc : z4o P f = true)
   (h : ∀ x z y, fn (x, z) = some y → wfU u x → wfU v z → wfU B y ∧ LibQ P f [pvU u x, pvU v z] (pvU B y)) : FnOK P (libS f [.d u, .d v] B) fn where
 can := hc
 ret := fun x y hy hw _ => by
   have hx : wfU u x.1 := by
     have := hw (.v u x.1) (List.mem_cons.2 (.inl rfl))
     simpa only [TV.wf] using this
   have hz : wfU v x.2 := by
     have := hw (.v v x.2) (List.mem_cons.2 (.inr (List.mem_singleton.2 rfl)))
     simpa only [TV.wf] using this
   refine ⟨?_, fun o ho => by cases ho⟩
   have := (h x.1 x.2 y hy hx hz).1
   show TV.wf (.v B y)
   simpa only [TV.wf] using this
 calls := fun x y hy hw _ => by
   have hx : wfU u x.1 := by
     have := hw (.v u x.1) (List.mem_cons.2 (.inl rfl))
     simpa only [TV.wf] using this
   have hz : wfU v x.2 := by
     have := hw (.v v x.2) (List.mem_cons.2 (.inr (List.mem_singleton.2 rfl)))
     simpa only [TV.wf] using this
   exact zlh (h x.1 x.2 y hy hx hz).2 ⟨rfl, rfl⟩
 open' := fun R y k => rfl
def zad {R : Type} (n : Nat) (k : Option R) : Option R := bif Nat.ble n 281474976710656 then k else none
theorem zi3 {R : Type} {n : Nat} {k : Option R} {r : R} (h : zad n k = some r) : n ≤ 281474976710656 ∧ k = some r := by
 unfold zad at h
 cases hc : Nat.ble n 281474976710656 with
 | false => rw [hc] at h; cases h
 | true => rw [hc] at h; exact ⟨Nat.le_of_ble_eq_true hc, h⟩
def nums (l : List UInt8) : List Int := l.map fun b => (b.toNat : Int)
def byts (s : List Int) : List UInt8 := (ba s).data.toList
theorem zh3 (l : List UInt8) : ba (nums l) = ⟨l.toArray⟩ := znz l
theorem zdz (l : List UInt8) : wfU .str (nums l) := by
 intro i hi
 simp only [nums, List.mem_map] at hi
 obtain ⟨b, _, rfl⟩ := hi
 have := b.toNat_lt
 exact ⟨by omega, by omega⟩
end Go.Tm