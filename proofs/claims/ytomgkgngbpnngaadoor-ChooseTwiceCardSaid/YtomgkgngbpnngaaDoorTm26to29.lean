import Derived.Test.YtomgkgngbpnngaaDoorTm21to25
import Derived.Lib.Bytealg
import Derived.Below
import Derived.Laws.AppendOwn
import Derived.Sort.OwnSorted
import Derived.Shelf.Abstract
set_option linter.unusedSimpArgs false
set_option linter.unusedVariables false
namespace Go.Tm
open Go.Ab
def Ok {A : Type} (x : Option A) (Q : A → Prop) : Prop := ∃ a, x = some a ∧ Q a
theorem z4e {A : Type} {a : A} {Q : A → Prop} (h : Q a) : Ok (some a) Q := ⟨a, rfl, h⟩
theorem zi5 {A B : Type} {x : Option A} {f : A → Option B} {Q : B → Prop} (h : Ok x fun a => Ok (f a) Q) : Ok (x.bind f) Q := by
 obtain ⟨a, h1, h2⟩ := h
 rw [h1]; exact h2
theorem ok_is {A : Type} {x : Option A} {a : A} (h : Ok x fun r => r = a) : x = some a := by
 obtain ⟨b, h1, rfl⟩ := h
 exact h1
theorem ok_if {A : Type} {c : Bool} {x y : Option A} {Q : A → Prop} (h : c = true → Ok x Q) (g : c = false → Ok y Q) : Ok (bif c then x else y) Q := by
 cases c
 · exact g rfl
 · exact h rfl
theorem ziv {A : Type} {x y : Option A} {Q : A → Prop} (h : Ok x Q) : Ok (bif true then x else y) Q := h
theorem zfz {A : Type} {x y : Option A} {Q : A → Prop} (h : Ok y Q) : Ok (bif false then x else y) Q := h
theorem zm5 {A : Type} {c : Bool} {x y : Option A} {Q : A → Prop} (h : Ok (bif c then y else x) Q) : Ok (bif !c then x else y) Q := by cases c <;> exact h
theorem ok_lt {A : Type} {a b : Int} {x y : Option A} {Q : A → Prop} (h : a < b → Ok x Q) (g : ¬ a < b → Ok y Q) : Ok (bif ltI a b then x else y) Q := by
 by_cases e : a < b
 · rw [ltI_t e]; exact h e
 · rw [ltI_f e]; exact g e
theorem ok_le {A : Type} {a b : Int} {x y : Option A} {Q : A → Prop} (h : a ≤ b → Ok x Q) (g : ¬ a ≤ b → Ok y Q) : Ok (bif leI a b then x else y) Q := by
 by_cases e : a ≤ b
 · rw [leI_t e]; exact h e
 · rw [leI_f e]; exact g e
theorem zlp {A : Type} {a b : Int} {x y : Option A} {Q : A → Prop} (h : a = b → Ok x Q) (g : ¬ a = b → Ok y Q) : Ok (bif eqI a b then x else y) Q := by
 by_cases e : a = b
 · rw [eqI_t e]; exact h e
 · rw [eqI_f e]; exact g e
theorem zlb {A : Type} {a b : Int} {x y : Option A} {Q : A → Prop} (h : ¬ a = b → Ok x Q) (g : a = b → Ok y Q) : Ok (bif neI a b then x else y) Q := by
 by_cases e : a = b
 · rw [neI_f e]; exact g e
 · rw [neI_t e]; exact h e
theorem zme {A : Type} {a b : List Int} {x y : Option A} {Q : A → Prop} (h : a = b → Ok x Q) (g : ¬ a = b → Ok y Q) : Ok (bif eqS a b then x else y) Q := by
 by_cases e : a = b
 · rw [eqS_t e]; exact h e
 · rw [eqS_f e]; exact g e
theorem ok_in {A : Type} {i : Int} {n : Nat} {x y : Option A} {Q : A → Prop} (e : 0 ≤ i ∧ i < n) (h : Ok x Q) : Ok (bif inI i n then x else y) Q := by rw [inI_t e]; exact h
theorem z15q {A : Type} {l h : Int} {n : Nat} {x y : Option A} {Q : A → Prop} (e : 0 ≤ l ∧ l ≤ h ∧ h ≤ n) (k : Ok x Q) : Ok (bif subOk l h n then x else y) Q := by rw [zlz e]; exact k
theorem z15s {A : Type} {n m : Nat} {x y : Option A} {Q : A → Prop} (e : n = m) (h : Ok x Q) : Ok (bif Nat.beq n m then x else y) Q := by rw [beq_t e]; exact h
theorem z15f {A : Type} {n m : Nat} {x y : Option A} {Q : A → Prop} (e : n ≤ m) (h : Ok x Q) : Ok (bif Nat.ble n m then x else y) Q := by rw [ble_t e]; exact h
theorem z10x {A : Type} {n : Nat} {k : Option A} {Q : A → Prop} (e : n ≤ 9223372036854775807) (h : Ok k Q) : Ok (z0p n k) Q := by rw [z3i e]; exact h
theorem z15v {A : Type} {n m nb : Nat} {k : Unit → Option A} {Q : A → Prop} (e : (n + m) * nb ≤ 140737488355328) (h : Ok (k ()) Q) : Ok (appG n m nb k) Q := by rw [zug e]; exact h
theorem z15a {A : Type} {a b : List Int} {k : Unit → Option A} {Q : A → Prop} (e : a.length + b.length ≤ 9223372036854775807) (h : Ok (k ()) Q) : Ok (catG a b k) Q := by rw [z15x e]; exact h
theorem zli {A B : Type} {l : List B} {k : List B → Option A} {Q : A → Prop} (h : Ok (k l) Q) : Ok (winK l 0 l.length k) Q := by rw [zol]; exact h
theorem z12d {A B : Type} {l : List B} {i n : Nat} {k : List B → Option A} {Q : A → Prop} (e : i + n ≤ l.length) (h : Ok (k ((l.drop i).take n)) Q) : Ok (winK l i n k) Q := by rw [z15p l i n e]; exact h
theorem z15t {A B : Type} {l : List B} {i : Nat} {f : B → Option A} {Q : A → Prop} (e : i < l.length) (h : Ok (f l[i]) Q) : Ok ((l[i]?).bind f) Q := by rw [getE e]; exact h
theorem zzn {A B : Type} {l : List B} {i : Nat} {f : B → Option A} {Q : A → Prop} (e : i < l.length) (h : Ok (f l[i]) Q) : Ok ((idxI l (i : Int)).bind f) Q := by rw [z6m e]; exact h
theorem z14t {A B : Type} {l : List B} {f : B → Option A} {Q : A → Prop} (e : 0 < l.length) (h : Ok (f l[0]) Q) : Ok ((idxI l 0).bind f) Q := zzn (i := 0) e h
theorem zm4 {A B C : Type} {y : A} {f : A → Option C} {g : B → Option C} {Q : C → Prop} (h : Ok (f y) Q) : Ok (Sum.elim f g (Sum.inl y)) Q := h
theorem zm6 {A B C : Type} {y : B} {f : A → Option C} {g : B → Option C} {Q : C → Prop} (h : Ok (g y) Q) : Ok (Sum.elim f g (Sum.inr y)) Q := h
theorem z15j {A : Type} {u : U} {a b : u.T} {x y : Option A} {Q : A → Prop} (hu : u.cmp = true) (h : a = b → Ok x Q) (g : ¬ a = b → Ok y Q) : Ok (bif eqU u a b then x else y) Q := by
 cases e : eqU u a b with
 | true => exact h ((zfv hu).1 e)
 | false => exact g fun h => by rw [(zfv hu).2 h] at e; cases e
def Rnd {S X : Type} (I : S → Prop) (Q : X → Prop) : S ⊕ X → Prop
 | .inl s => I s
 | .inr x => Q x
theorem zih {S X : Type} {I : S → Prop} {Q : X → Prop} {s : S} (h : I s) : Rnd I Q (.inl s : S ⊕ X) := h
theorem zj1 {S X : Type} {I : S → Prop} {Q : X → Prop} {x : X} (h : Q x) : Rnd I Q (.inr x : S ⊕ X) := h
theorem z9g {n : Nat} (h : n < 9223372036854775807) : W64 ((n : Int) + 1) = ((n + 1 : Nat) : Int) := by rw [zp6 (by omega)]; rfl
theorem qs {A : Type} {n : Nat} {k : Option A} {Q : A → Prop} (h : Ok k Q) (e : n ≤ 9223372036854775807 := by omega) : Ok (z0p n k) Q := z10x e h
theorem qb {A : Type} {n m : Nat} {x y : Option A} {Q : A → Prop} (h : Ok x Q) (e : n = m := by first | rfl | omega | (simp only [List.length_set, List.length_append, List.length_cons, List.length_nil, List.length_replicate, List.length_take, List.length_drop, List.length_map, Int.toNat_natCast] <;> omega)) : Ok (bif Nat.beq n m then x else y) Q := z15s e h
theorem qw {A B : Type} {l : List B} {i n : Nat} {k : List B → Option A} {Q : A → Prop} (h : Ok (k ((l.drop i).take n)) Q) (e : i + n ≤ l.length := by first | omega | (simp only [List.length_set, List.length_append, List.length_cons, List.length_nil, List.length_replicate, List.length_take, List.length_drop, List.length_map, Int.toNat_natCast] <;> omega)) : Ok (winK l i n k) Q := z12d e h
theorem qi {A : Type} {i : Int} {n : Nat} {x y : Option A} {Q : A → Prop} (h : Ok x Q) (e : 0 ≤ i ∧ i < n := by first | omega | (simp only [List.length_set, List.length_append, List.length_cons, List.length_nil, List.length_replicate, List.length_take, List.length_drop, List.length_map, Int.toNat_natCast] <;> omega)) : Ok (bif inI i n then x else y) Q := ok_in e h
theorem qa {A : Type} {n m nb : Nat} {k : Unit → Option A} {Q : A → Prop} (h : Ok (k ()) Q) (e : (n + m) * nb ≤ 140737488355328 := by first | omega | (simp only [List.length_set, List.length_append, List.length_cons, List.length_nil, List.length_replicate, List.length_take, List.length_drop, List.length_map, Int.toNat_natCast] <;> omega)) : Ok (appG n m nb k) Q := z15v e h
theorem qc {A : Type} {a b : List Int} {k : Unit → Option A} {Q : A → Prop} (h : Ok (k ()) Q) (e : a.length + b.length ≤ 9223372036854775807 := by first | omega | (simp only [List.length_set, List.length_append, List.length_cons, List.length_nil, List.length_replicate, List.length_take, List.length_drop, List.length_map, Int.toNat_natCast] <;> omega)) : Ok (catG a b k) Q := z15a e h
theorem ql {A : Type} {n m : Nat} {x y : Option A} {Q : A → Prop} (h : Ok x Q) (e : n ≤ m := by first | omega | (simp only [List.length_set, List.length_append, List.length_cons, List.length_nil, List.length_replicate, List.length_take, List.length_drop, List.length_map, Int.toNat_natCast] <;> omega)) : Ok (bif Nat.ble n m then x else y) Q := z15f e h
theorem qp {A : Type} {l h : Int} {n : Nat} {x y : Option A} {Q : A → Prop} (k : Ok x Q) (e : 0 ≤ l ∧ l ≤ h ∧ h ≤ n := by first | omega | (simp only [List.length_set, List.length_append, List.length_cons, List.length_nil, List.length_replicate, List.length_take, List.length_drop, List.length_map, Int.toNat_natCast] <;> omega)) : Ok (bif subOk l h n then x else y) Q := z15q e k
theorem qu {A : Type} {u : U} {a b : u.T} {x y : Option A} {Q : A → Prop} (h : a = b → Ok x Q) (g : ¬ a = b → Ok y Q) (hu : u.cmp = true := by with_unfolding_all exact rfl) : Ok (bif eqU u a b then x else y) Q := z15j hu h g
theorem qg {A B : Type} {l : List B} {i : Nat} {f : B → Option A} {Q : A → Prop} (e : i < l.length := by first | omega | (simp only [List.length_set, List.length_append, List.length_cons, List.length_nil, List.length_replicate, List.length_take, List.length_drop, List.length_map, Int.toNat_natCast] <;> omega)) (h : Ok (f l[i]) Q) : Ok ((l[i]?).bind f) Q := z15t e h
theorem qx {A B : Type} {l : List B} {i : Nat} {f : B → Option A} {Q : A → Prop} (e : i < l.length := by first | omega | (simp only [List.length_set, List.length_append, List.length_cons, List.length_nil, List.length_replicate, List.length_take, List.length_drop, List.length_map, Int.toNat_natCast] <;> omega)) (h : Ok (f l[i]) Q) : Ok ((idxI l (i : Int)).bind f) Q := zzn e h
theorem qy {A B : Type} {l : List B} {f : B → Option A} {Q : A → Prop} (e : 0 < l.length := by first | omega | (simp only [List.length_set, List.length_append, List.length_cons, List.length_nil, List.length_replicate, List.length_take, List.length_drop, List.length_map, Int.toNat_natCast] <;> omega)) (h : Ok (f l[0]) Q) : Ok ((idxI l 0).bind f) Q := z14t e h
end Go.Tm
set_option linter.unusedSimpArgs false
set_option linter.unusedVariables false
namespace Go.Tm
open Go.Ab Go.Lib
theorem z15n (s : List Int) : (ba s).data.toList.length = s.length := by unfold ba; simp
def ziw (s : List Int) (c : Int) : Int := indexByte (ba s).data.toList c.toNat.toUInt8
def zoc (f : FuncId) : Ent where
 f := f
 ok := fun _ _ => true
 run := fun _ args k => match args with
   | [.v .str s, .v (.int .u8) c] => z0p (List.length s) (k (.v (.int .i64) (ziw s c)))
   | _ => none
theorem ztb : ∀ (l : List UInt8) (c : UInt8), indexByte l c ≤ l.length
 | [], _ => by simp [indexByte]
 | b :: l, c => by
   have ih := ztb l c
   unfold indexByte
   simp only [List.length_cons]
   split
   · omega
   · split <;> omega
theorem zvg {P : Program} {f : FuncId} {fn : Func} (hf : P.funcs[f]? = some fn) (hname : (fn.name == "runtime.NumGoroutine") = false) (hb : fn.body.isNone = true) (hn : Extern.findNext fn = none)
   (he : Extern.find fn = some Extern.BytealgIndexByte.indexByte) : EntOK P (zoc f) := by
 intro R H args k r hH hw h
 simp only [zoc] at h
 split at h
 · rename_i s c
   have hs : List.length s ≤ 9223372036854775807 ∧ k (.v (.int .i64) (ziw s c)) = some r := by
     unfold z0p at h
     cases hc : Nat.ble (List.length s) 9223372036854775807 with
     | false => rw [hc] at h; cases h
     | true => rw [hc] at h; exact ⟨Nat.le_of_ble_eq_true hc, h⟩
   have hle := ztb (ba s).data.toList c.toNat.toUInt8
   have hge := indexByte_ge (ba s).data.toList c.toNat.toUInt8
   rw [z15n] at hle
   refine ⟨_, hs.2, ?_, .inl ⟨fn, _, [.string (ba s), .int .u8 c], _, hf, hname, hb, hn, he, rfl, rfl, rfl, fun w => run_indexByteString _ _ w⟩⟩
   simp only [TV.wf, wfU]
   unfold ziw
   generalize indexByte (ba s).data.toList c.toNat.toUInt8 = n at hle hge
   have h3 := hs.1
   exact ⟨show (-9223372036854775808 : Int) ≤ n by omega, show n ≤ (9223372036854775807 : Int) by omega⟩
 · cases h
end Go.Tm
set_option linter.unusedSimpArgs false
set_option linter.unusedVariables false
namespace Go.Tm
open Go.Ab
theorem vals1 {w : World} {c : Cx} {a : Value} {vs : Array Value} (hs : vs.size = 1) (h : VRs w c [.val a] (fun i => vs[i]?)) : vs = #[a] := by
 simp only [VRs, VR] at h
 obtain ⟨⟨v, h1, rfl, _⟩, _⟩ := h
 apply Array.ext (by simp [hs])
 intro i hi hi'
 have : i = 0 := by omega
 subst this
 have := (Array.getElem?_eq_some_iff.1 h1).2
 simpa using this
theorem vals2 {w : World} {c : Cx} {a b : Value} {vs : Array Value} (hs : vs.size = 2) (h : VRs w c [.val a, .val b] (fun i => vs[i]?)) : vs = #[a, b] := by
 simp only [VRs, VR] at h
 obtain ⟨⟨v, h1, rfl, _⟩, ⟨v', h2, rfl, _⟩, _⟩ := h
 apply Array.ext (by simp [hs])
 intro i hi hi'
 have g1 := (Array.getElem?_eq_some_iff.1 h1).2
 have g2 := (Array.getElem?_eq_some_iff.1 h2).2
 match i, hi with
 | 0, _ => simpa using g1
 | 1, _ => simpa using g2
 | n + 2, hi => omega
theorem z13b {w w' : World} {c : Cx} {H : List AObj} (g : Ab.Good w c H []) (x : Ext w c w' c) : ExtP 0 w c w' c where
 os := x.os
 tape := x.tape
 output := x.output
 size := x.size
 new := fun k h => .inl h
 blocks := fun k hk hm => x.blocks k hk hm fun i j h => by rw [Ab.noT g] at h; simp at h
 ok := rfl
 pn := rfl
 pin := fun b k _ h => h
 room := x.room
theorem zvo {w w' : World} {c : Cx} {H : List AObj} {ts : List Bool} (g : Ab.Good w c H ts) (h : Go.RowKit.Below w.heap.size w w') : Ab.Good w' c H ts ∧ Ext w c w' c :=
 zf7 g h.os h.tape h.output h.size h.block
def libX (B : U) : XS := XS.one .ret (Shp.mk 1 0 [(0, .d B)] []).xe
def libS (f : FuncId) (A : List Pat) (B : U) : Sig := ⟨f, A, [], 0, libX B⟩
def LibQ (P : Program) (f : FuncId) (qs : List PV) (p : PV) : Prop :=
 ∀ w c (vs : Array Value), Ab.Good w c [] [] → vs.size = qs.length → VRs w c qs (fun i => vs[i]?) →
   Calls P f vs w fun e w' => ∃ v, e = .returned v ∧ Go.RowKit.Below w.heap.size w w' ∧ (Ab.Good w' c [] [] → VR w' c p v)
theorem zs5 {P : Program} {f : FuncId} {qs : List PV} {p : PV} {R : PV → List AObj → Prop} (h : LibQ P f qs p) (hR : R p []) : zox P f 0 qs [] R := by
 intro w c vs g h0 hs hv
 refine (h w c vs g hs hv).mono ?_
 rintro e w' ⟨v, rfl, hb, hvr⟩
 obtain ⟨g', x⟩ := zvo g hb
 exact ⟨v, p, [], c, rfl, hR, g', hvr g', z13b g x⟩
theorem zwe {P : Program} {f : FuncId} {u B : U} {fn : u.T → Option B.T} (hc : z7p P f = true)
   (h : ∀ x y, fn x = some y → wfU u x → wfU B y ∧ LibQ P f [pvU u x] (pvU B y)) : FnOK P (libS f [.d u] B) fn where
 can := hc
 ret := fun x y hy hw _ => by
   have hx : wfU u x := by
     have := hw (.v u x) (List.mem_singleton.2 rfl)
     simpa only [TV.wf] using this
   refine ⟨?_, fun o ho => by cases ho⟩
   have := (h x y hy hx).1
   show TV.wf (.v B y)
   simpa only [TV.wf] using this
 calls := fun x y hy hw _ => by
   have hx : wfU u x := by
     have := hw (.v u x) (List.mem_singleton.2 rfl)
     simpa only [TV.wf] using this
   exact zs5 (h x y hy hx).2 ⟨rfl, rfl⟩
 open' := fun R y k => rfl
theorem z13i {P : Program} {f : FuncId} {u v B : U} {fn : u.T × v.T → Option B.T} (hc : z7p P f = true)
   (h : ∀ x z y, fn (x, z) = some y → wfU u x → wfU v z → wfU B y ∧ LibQ P f [pvU u x, pvU v z] (pvU B y)) : FnOK P (libS f [.d u, .d v] B) fn where
 can := hc
 ret := fun x y hy hw _ => by
   have hx : wfU u x.1 := by
     have := hw (.v u x.1) (List.mem_cons.2 (.inl rfl))
     simpa only [TV.wf] using this
   have hz : wfU v x.2 := by
     have := hw (.v v x.2) (List.mem_cons.2 (.inr (List.mem_singleton.2 rfl)))
     simpa only [TV.wf] using this
   refine ⟨?_, fun o ho => by cases ho⟩
   have := (h x.1 x.2 y hy hx hz).1
   show TV.wf (.v B y)
   simpa only [TV.wf] using this
 calls := fun x y hy hw _ => by
   have hx : wfU u x.1 := by
     have := hw (.v u x.1) (List.mem_cons.2 (.inl rfl))
     simpa only [TV.wf] using this
   have hz : wfU v x.2 := by
     have := hw (.v v x.2) (List.mem_cons.2 (.inr (List.mem_singleton.2 rfl)))
     simpa only [TV.wf] using this
   exact zs5 (h x.1 x.2 y hy hx hz).2 ⟨rfl, rfl⟩
 open' := fun R y k => rfl
def zek {R : Type} (n : Nat) (k : Option R) : Option R := bif Nat.ble n 281474976710656 then k else none
theorem znk {R : Type} {n : Nat} {k : Option R} {r : R} (h : zek n k = some r) : n ≤ 281474976710656 ∧ k = some r := by
 unfold zek at h
 cases hc : Nat.ble n 281474976710656 with
 | false => rw [hc] at h; cases h
 | true => rw [hc] at h; exact ⟨Nat.le_of_ble_eq_true hc, h⟩
def nums (l : List UInt8) : List Int := l.map fun b => (b.toNat : Int)
def byts (s : List Int) : List UInt8 := (ba s).data.toList
theorem zqy (l : List UInt8) : ba (nums l) = ⟨l.toArray⟩ := zux l
theorem zqj (l : List UInt8) : wfU .str (nums l) := by
 intro i hi
 simp only [nums, List.mem_map] at hi
 obtain ⟨b, _, rfl⟩ := hi
 have := b.toNat_lt
 exact ⟨by omega, by omega⟩
end Go.Tm
set_option linter.unusedSimpArgs false
set_option linter.unusedVariables false
namespace Go.Tm
open Go.Ab Go.RowKit Go.Sort Go.Proofs Go.Shelf
theorem zbq : ∀ l : List (List Int), rowU .str l = l.map fun s => PV.val (.string (ba s))
 | [] => rfl
 | x :: l => by
   show cellU .str x ++ rowU .str l = _
   rw [zbq l]
   rfl
theorem zne (s : List Int) : encStr (byts s) = .string (ba s) := by simp [encStr, byts]
theorem znn (b : List UInt8) : Value.string (ba (nums b)) = encStr b := by simp [encStr, zqy]
theorem noTk {w : World} {c : Cx} {H : List AObj} (g : Ab.Good w c H []) (i k j : Nat) : ¬ c.T[i]? = some (some (k, j)) := by rw [Ab.noT g]; simp
theorem zro {w w' : World} {c : Cx} {H : List AObj} (g : Ab.Good w c H []) (hb : Go.RowKit.Below w.heap.size w w') (o : Option Nat) (hok : ∀ k, o = some k → w.heap.size ≤ k) (X : AObj) (hobj : ObjC w' { c with m := c.m ++ [o] } H.length X) :
   Ab.Good w' { c with m := c.m ++ [o] } (H ++ [X]) [] ∧ Ext w c w' { c with m := c.m ++ [o] } := by
 have ids : ∀ b k : Nat, c.m[b]? = some (some k) → (c.m ++ [o])[b]? = some (some k) := fun b k h => by
   rw [List.getElem?_append_left (List.getElem?_eq_some_iff.1 h).1]; exact h
 have back : ∀ i k : Nat, (c.m ++ [o])[i]? = some (some k) → c.m[i]? = some (some k) ∨ (i = c.m.length ∧ o = some k) := fun i k h => by
   rcases Nat.lt_or_ge i c.m.length with hi | hi
   · rw [List.getElem?_append_left hi] at h; exact .inl h
   · rw [List.getElem?_append_right hi] at h
     cases hz : i - c.m.length with
     | zero => rw [hz] at h; exact .inr ⟨by omega, by simpa using h⟩
     | succ n => rw [hz] at h; simp at h
 have x : Ext w c w' { c with m := c.m ++ [o] } := Ext.of_grow _ hb.os hb.tape hb.output hb.size hb.block ids (fun k h => by
   rcases List.mem_append.1 h with h | h
   · exact .inl h
   · exact .inr (hok k (List.mem_singleton.1 h).symm)) (fun i k j h => absurd h (noTk g i k j))
 refine ⟨⟨by simp [g.len], fun i j k hi hj => ?_, fun b ob h => ?_, g.tl, fun i h => by simp at h, fun i h => by simp at h, fun i k j h => absurd h (noTk g i k j), g.tinj, fun k e h => g.okn k e (Nat.le_trans hb.size h), g.okm, g.okt, fun b k hb' h e => ?_, g.gl.ext x⟩, x⟩
 · rcases back i k hi with hi | ⟨ei, ek⟩ <;> rcases back j k hj with hj | ⟨ej, ek'⟩
   · exact g.inj i j k hi hj
   · have := ObjC.lt g hi; have := hok k ek'; omega
   · have := ObjC.lt g hj; have := hok k ek; omega
   · omega
 · rcases Nat.lt_or_ge b H.length with hlt | hge
   · rw [List.getElem?_append_left hlt] at h
     refine (g.obj b ob h).pass x (fun k h1 => ⟨ids _ _ h1, hb.block k (ObjC.lt g h1)⟩) fun ho => ?_
     show (c.m ++ [o])[b]? = some none
     rw [List.getElem?_append_left (by rw [g.len]; exact hlt)]; exact ho
   · rw [List.getElem?_append_right hge] at h
     cases hz : b - H.length with
     | zero =>
       rw [hz] at h
       have e1 : b = H.length := by omega
       subst e1
       simp at h; subst h; exact hobj
     | succ n => rw [hz] at h; simp at h
 · rcases back b k h with hk | ⟨_, ek⟩
   · exact g.oko b k hb' hk e
   · exact g.okn k e (hok k ek)
theorem zwo {w w' : World} {c : Cx} {H : List AObj} {e : TypeId} {v : Value} {l : List (List Int)} (g : Ab.Good w c H []) (hb : Go.RowKit.Below w.heap.size w w')
   (hrow : w'.ownsRow w.heap.size e 1 v l.length (l.map fun s => Value.string (ba s))) (p : Nat) :
   ∃ c', Ab.Good w' c' (H ++ [.row (rowU .str l) e]) [] ∧ VR w' c' (.sl H.length 0 l.length 1) v ∧ ExtP p w c w' c' := by
 have at0 : ∀ o : Option Nat, (c.m ++ [o])[H.length]? = some o := fun o => by
   rw [← g.len, List.getElem?_append_right (Nat.le_refl _)]; simp
 have mk : ∀ o : Option Nat, Ext w c w' { c with m := c.m ++ [o] } → ExtP p w c w' { c with m := c.m ++ [o] } := fun o x =>
   ⟨hb.os, hb.tape, hb.output, hb.size, x.new, fun k hk _ => hb.block k hk, rfl, rfl, fun b k _ h => x.ids b k h, x.room⟩
 rcases hrow with ⟨hlen, ⟨rfl, hz⟩ | ⟨gb, cap, cur, rfl, hbase, hgb, r1, r2, r3, r4⟩⟩
 · have hl : l = [] := List.eq_nil_of_length_eq_zero hz
   subst hl
   obtain ⟨g', x⟩ := zro g hb none (fun k h => by cases h) (.row [] e) (.inl ⟨rfl, at0 none⟩)
   refine ⟨_, g', ?_, mk none x⟩
   simp only [VR]
   exact .inl ⟨⟨none, rfl⟩, rfl⟩
 · have hok : ∀ k, some gb = some k → w.heap.size ≤ k := fun k h => by cases h; exact hbase
   have hcur : ∀ (i : Nat) s, l[i]? = some s → cur[i]? = some (.string (ba s)) := fun i s hi => by
     have h1 : (cur.toList.take (l.length * 1))[i]? = some (.string (ba s)) := by rw [r4, List.getElem?_map, hi]; rfl
     rw [List.getElem?_take] at h1
     split at h1
     · simpa using h1
     · cases h1
   obtain ⟨g', x⟩ := zro g hb (some gb) hok (.row (rowU .str l) e) (.inr ⟨gb, cur, (0, 0), at0 _, hgb, z9z _, by rw [zbq, List.length_map]; omega, by
       rw [zbq]
       intro p hp
       simp only [List.mem_map] at hp
       obtain ⟨s, _, rfl⟩ := hp
       rfl, by
       rw [zbq]
       refine VRs_mk fun i p hi => ?_
       rw [List.getElem?_map] at hi
       cases hl : l[i]? with
       | none => rw [hl] at hi; cases hi
       | some s =>
         rw [hl] at hi; simp at hi; subst hi
         exact ⟨_, hcur i s hl, z3a.2 ⟨rfl, rfl⟩⟩⟩)
   refine ⟨_, g', ?_, mk _ x⟩
   simp only [VR]
   exact .inr ⟨gb, cap, 0, at0 _, rfl, .inr rfl, r1, cur, e, (0, 0), hgb, by omega⟩
theorem z10l {w : World} {c : Cx} {e : TypeId} {v : Value} {l : List (List Int)} (g : Ab.Good w c [.row (rowU .str l) e] []) (hv : VR w c (.sl 0 0 l.length 1) v) :
   (∃ ad, v = .slice ad 0 0 ∧ l = []) ∨ ∃ k cap, v = .slice (some ⟨k, 0, none⟩) l.length cap ∧ l.length ≤ cap ∧ Holds encStr w k 0 (l.map byts).toArray ∧ c.m = [some k] ∧ k < w.heap.size := by
 simp only [VR] at hv
 rcases hv with ⟨⟨ad, rfl⟩, hz⟩ | ⟨k, cap, off', hk, rfl, ho, hcap, _⟩
 · exact .inl ⟨ad, rfl, List.eq_nil_of_length_eq_zero hz⟩
 · have ho' : off' = 0 := by rcases ho with ⟨_, h⟩ | h; exact absurd rfl h; exact h
   subst ho'
   have hlt := ObjC.lt g hk
   obtain ⟨vs, fr, h2, hf, h3, hl, h4⟩ := ObjC.row (g.obj 0 _ rfl) hk
   refine .inr ⟨k, cap, rfl, hcap, fun j hj => ?_, ?_, hlt⟩
   · have hj' : j < l.length := by simpa using hj
     rw [zbq] at h4 h3
     obtain ⟨y, h5, h6⟩ := z0h h4 (i := j) (p := .val (.string (ba l[j]))) (by rw [List.getElem?_map, List.getElem?_eq_getElem hj']; rfl)
     simp only [VR] at h6
     obtain ⟨rfl, _⟩ := h6
     have hjs : j < vs.size := (Array.getElem?_eq_some_iff.1 h5).1
     refine ⟨?_, ?_⟩
     · rw [z6h h2, Nat.zero_add, h5]
       have : (l.map byts).toArray[j]! = byts l[j] := by
         rw [getElem!_pos _ j (by simpa using hj')]
         simp
       rw [this, zne]
     · simp only [World.frozen?, h2, Nat.zero_add]
       have := hf j hjs
       obtain ⟨lo, hi⟩ := fr
       by_cases h7 : lo ≤ j
       · have : ¬ j < hi := fun h => this ⟨h7, h⟩
         simp [this]
       · simp [h7]
   · have hlen := g.len
     match hm : c.m, hlen with
     | [x], _ =>
       rw [hm] at hk
       simp at hk
       rw [hk]
theorem zm3 {w : World} {q k off : Nat} {d : Array (List UInt8)} (j : Nat) (h : j ≠ k) : (putRow encStr (Sort.ahead w q) k off d).heap[j]? = w.heap[j]? := by
 show ((Sort.ahead w q).heap.modify k _)[j]? = _
 rw [Array.getElem?_modify, if_neg (fun e => h e.symm)]
 rfl
theorem zvb {w : World} {q k off : Nat} {d : Array (List UInt8)} (j : Nat) (vs : Array Value) (e : TypeId) (fr : Nat × Nat) (h : w.heap[j]? = some (Obj.cells vs e fr)) :
   ∃ (vs' : Array Value) (fr' : Nat × Nat), (putRow encStr (Sort.ahead w q) k off d).heap[j]? = some (Obj.cells vs' e fr') ∧ vs'.size = vs.size := by
 by_cases hj : j = k
 · subst hj
   refine ⟨putCells encStr off d vs, fr, ?_, by simp [putCells]⟩
   show ((Sort.ahead w q).heap.modify j _)[j]? = _
   rw [Array.getElem?_modify, if_pos rfl]
   show (w.heap[j]?).map _ = _
   rw [h]
   rfl
 · exact ⟨vs, fr, (zm3 j hj).trans h, rfl⟩
theorem taken {w w' : World} {c : Cx} {e : TypeId} {l : List (List Int)} (g : Ab.Good w c [.row (rowU .str l) e] []) (hp : c.pn = 0) (hos : w'.os = w.os) (ht : w'.tape = w.tape) (hou : w'.output = w.output) (hsz : w'.heap.size = w.heap.size)
   (hbl : ∀ j, some j ∉ c.m → w'.heap[j]? = w.heap[j]?)
   (hroom : ∀ (k : Nat) (vs : Array Value) (e : TypeId) (fr : Nat × Nat), w.heap[k]? = some (Obj.cells vs e fr) → ∃ (vs' : Array Value) (fr' : Nat × Nat), w'.heap[k]? = some (Obj.cells vs' e fr') ∧ vs'.size = vs.size) :
   Ab.Good w' { c with m := [] } [] [] ∧ ExtP 0 w c w' { c with m := [] } := by
 refine ⟨⟨rfl, fun i j k h => by simp at h, fun b o h => by simp at h, g.tl, fun i h => by simp at h, fun i h => by simp at h, fun i k j h => absurd h (noTk g i k j), g.tinj, fun k e h => g.okn k e (by rw [← hsz]; exact h), g.okm, g.okt, fun b k _ h => by simp at h,
   ⟨by rw [hsz]; exact g.gl.sz, fun k h => by simp at h, g.gl.T, Glob.stay (fun k hk => hbl k fun h => Nat.not_lt.2 (g.gl.m k h) hk) g.gl.var⟩⟩, ⟨hos, ht, hou, Nat.le_of_eq hsz.symm, fun k h => by simp at h, fun k _ h => hbl k h, rfl, rfl, fun b k hb _ => absurd hb (Nat.not_lt_zero _), hroom⟩⟩
theorem z10z {w : World} {c : Cx} {e : TypeId} {k q cap : Nat} {l : List (List Int)} {m : List (List UInt8)} {d : Array (List UInt8)} (g : Ab.Good w c [.row (rowU .str l) e] []) (hp : c.pn = 0) (hm : c.m = [some k]) (hk : k < w.heap.size)
   (hH : Holds encStr w k 0 (l.map byts).toArray) (hd : d.size = l.length) (hml : m.length ≤ l.length) (hmd : ∀ (j : Nat) (x : List UInt8), m[j]? = some x → d[j]! = x) (hcap : m.length ≤ cap) :
   Ab.Good (putRow encStr (Sort.ahead w q) k 0 d) { c with m := [] } [] [] ∧ VR (putRow encStr (Sort.ahead w q) k 0 d) { c with m := [] } (pvU (.sl .str) (m.map nums)) (.slice (some ⟨k, 0, none⟩) m.length cap) ∧
     ExtP 0 w c (putRow encStr (Sort.ahead w q) k 0 d) { c with m := [] } := by
 obtain ⟨g', x⟩ := taken (w' := putRow encStr (Sort.ahead w q) k 0 d) g hp rfl rfl rfl (by rw [size_putRow]; rfl) (fun j hj => zm3 j fun h => hj (by rw [hm, h]; simp)) fun j vs e fr h => zvb j vs e fr h
 refine ⟨g', ?_, x⟩
 have er : pvU (.sl .str) (m.map nums) = .tr m.length (m.map fun b => PV.val (encStr b)) .no := by
   have e2 : rowU .str (m.map nums) = m.map fun b => PV.val (encStr b) := by
     rw [zbq, List.map_map]
     exact List.map_congr_left fun b _ => by simp only [Function.comp]; rw [znn]
   show PV.tr (List.length (m.map nums)) (rowU .str (m.map nums)) .no = _
   rw [e2, List.length_map]
 rw [er]
 simp only [VR]
 refine .inr ⟨⟨k, 0, none⟩, cap, rfl, hcap, .inr ⟨rfl, ?_, by simp, fun i j h => absurd h (noTk g i k j), ?_⟩, trivial, fun p hp' => ?_, VRs_mk fun i p hi => ?_⟩
 · rw [size_putRow]; exact hk
 · exact g.oko 0 k (by rw [hp]; exact Nat.le_refl _) (by rw [hm]; rfl) _
 · simp only [List.mem_map] at hp'
   obtain ⟨s, _, rfl⟩ := hp'
   rfl
 · rw [List.getElem?_map] at hi
   cases hl : m[i]? with
   | none => rw [hl] at hi; cases hi
   | some b =>
     rw [hl] at hi; simp at hi; subst hi
     have hi' : i < m.length := (List.getElem?_eq_some_iff.1 hl).1
     refine ⟨encStr b, ?_, z3a.2 ⟨rfl, rfl⟩⟩
     have h0 : Holds encStr (Sort.ahead w q) k 0 (l.map byts).toArray := hH
     have := cell?_putRow encStr (Sort.ahead w q) k 0 (l.map byts).toArray d h0 (by simp [hd]) i (by omega)
     rw [hmd i b hl] at this
     exact this
def ownX (n : Nat) (hp : List HPat) (e : TypeId) : XS := XS.one .ret (Shp.mk 1 n [(0, .wn n .str)] (hp ++ [.row e .str])).xe
end Go.Tm