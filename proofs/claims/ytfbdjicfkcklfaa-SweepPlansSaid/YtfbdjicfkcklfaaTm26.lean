import Derived.Test.YtfbdjicfkcklfaaTm21to25
set_option linter.unusedSimpArgs false
set_option linter.unusedVariables false
namespace Go.Tm
open Go.Ab
def Ok {A : Type} (x : Option A) (Q : A → Prop) : Prop := ∃ a, x = some a ∧ Q a
theorem z0d {A : Type} {a : A} {Q : A → Prop} (h : Q a) : Ok (some a) Q := ⟨a, rfl, h⟩
theorem z8i {A : Type} {x : Option A} {Q R : A → Prop} (h : Ok x R) (g : ∀ a, R a → Q a) : Ok x Q := by
 obtain ⟨a, h1, h2⟩ := h
 exact ⟨a, h1, g a h2⟩
theorem z0a {A B : Type} {x : Option A} {f : A → Option B} {Q : B → Prop} (h : Ok x fun a => Ok (f a) Q) : Ok (x.bind f) Q := by
 obtain ⟨a, h1, h2⟩ := h
 rw [h1]; exact h2
theorem z4f {A B : Type} {x : Option A} {f : A → Option B} {Q : B → Prop} {R : A → Prop} (h : Ok x R) (g : ∀ a, R a → Ok (f a) Q) : Ok (x.bind f) Q := z0a (z8i h g)
theorem ok_eq {A B : Type} {x : Option A} {a : A} {f : A → Option B} {Q : B → Prop} (h : x = some a) (g : Ok (f a) Q) : Ok (x.bind f) Q := by rw [h]; exact g
theorem ok_is {A : Type} {x : Option A} {a : A} (h : Ok x fun r => r = a) : x = some a := by
 obtain ⟨b, h1, rfl⟩ := h
 exact h1
theorem ok_if {A : Type} {c : Bool} {x y : Option A} {Q : A → Prop} (h : c = true → Ok x Q) (g : c = false → Ok y Q) : Ok (bif c then x else y) Q := by
 cases c
 · exact g rfl
 · exact h rfl
theorem z0e {A : Type} {x y : Option A} {Q : A → Prop} (h : Ok x Q) : Ok (bif true then x else y) Q := h
theorem z0b {A : Type} {x y : Option A} {Q : A → Prop} (h : Ok y Q) : Ok (bif false then x else y) Q := h
theorem z0i {A : Type} {c : Bool} {x y : Option A} {Q : A → Prop} (h : Ok (bif c then y else x) Q) : Ok (bif !c then x else y) Q := by cases c <;> exact h
theorem ok_lt {A : Type} {a b : Int} {x y : Option A} {Q : A → Prop} (h : a < b → Ok x Q) (g : ¬ a < b → Ok y Q) : Ok (bif ltI a b then x else y) Q := by
 by_cases e : a < b
 · rw [ltI_t e]; exact h e
 · rw [ltI_f e]; exact g e
theorem ok_le {A : Type} {a b : Int} {x y : Option A} {Q : A → Prop} (h : a ≤ b → Ok x Q) (g : ¬ a ≤ b → Ok y Q) : Ok (bif leI a b then x else y) Q := by
 by_cases e : a ≤ b
 · rw [leI_t e]; exact h e
 · rw [leI_f e]; exact g e
theorem z0h {A : Type} {a b : Int} {x y : Option A} {Q : A → Prop} (h : a = b → Ok x Q) (g : ¬ a = b → Ok y Q) : Ok (bif eqI a b then x else y) Q := by
 by_cases e : a = b
 · rw [eqI_t e]; exact h e
 · rw [eqI_f e]; exact g e
theorem z0k {A : Type} {a b : Int} {x y : Option A} {Q : A → Prop} (h : ¬ a = b → Ok x Q) (g : a = b → Ok y Q) : Ok (bif neI a b then x else y) Q := by
 by_cases e : a = b
 · rw [neI_f e]; exact g e
 · rw [neI_t e]; exact h e
theorem z0m {A : Type} {a b : List Int} {x y : Option A} {Q : A → Prop} (h : a = b → Ok x Q) (g : ¬ a = b → Ok y Q) : Ok (bif eqS a b then x else y) Q := by
 by_cases e : a = b
 · rw [eqS_t e]; exact h e
 · rw [eqS_f e]; exact g e
theorem ok_in {A : Type} {i : Int} {n : Nat} {x y : Option A} {Q : A → Prop} (e : 0 ≤ i ∧ i < n) (h : Ok x Q) : Ok (bif inI i n then x else y) Q := by rw [inI_t e]; exact h
theorem z1rd {A : Type} {l h : Int} {n : Nat} {x y : Option A} {Q : A → Prop} (e : 0 ≤ l ∧ l ≤ h ∧ h ≤ n) (k : Ok x Q) : Ok (bif subOk l h n then x else y) Q := by rw [z1qu e]; exact k
theorem zmc {A : Type} {n m : Nat} {x y : Option A} {Q : A → Prop} (e : n = m) (h : Ok x Q) : Ok (bif Nat.beq n m then x else y) Q := by rw [beq_t e]; exact h
theorem z1ar {A : Type} {n m : Nat} {x y : Option A} {Q : A → Prop} (e : n ≤ m) (h : Ok x Q) : Ok (bif Nat.ble n m then x else y) Q := by rw [ble_t e]; exact h
theorem zaw {A : Type} {n : Nat} {k : Option A} {Q : A → Prop} (e : n ≤ 9223372036854775807) (h : Ok k Q) : Ok (z1f n k) Q := by rw [z1ot e]; exact h
theorem z1ra {A : Type} {n m nb : Nat} {k : Unit → Option A} {Q : A → Prop} (e : (n + m) * nb ≤ 140737488355328) (h : Ok (k ()) Q) : Ok (appG n m nb k) Q := by rw [z1r3 e]; exact h
theorem z1qz {A : Type} {a b : List Int} {k : Unit → Option A} {Q : A → Prop} (e : a.length + b.length ≤ 9223372036854775807) (h : Ok (k ()) Q) : Ok (catG a b k) Q := by rw [z1r1 e]; exact h
theorem z0n {A B : Type} {l : List B} {k : List B → Option A} {Q : A → Prop} (h : Ok (k l) Q) : Ok (winK l 0 l.length k) Q := by rw [z1og]; exact h
theorem z1p5 {A B : Type} {l : List B} {i n : Nat} {k : List B → Option A} {Q : A → Prop} (e : i + n ≤ l.length) (h : Ok (k ((l.drop i).take n)) Q) : Ok (winK l i n k) Q := by rw [z1qt l i n e]; exact h
theorem z1fy {A : Type} {n : Nat} {k : Bool → Option A} {Q : A → Prop} (e : n = 0 → k true = k false) (h : Ok (k false) Q) : Ok (nilK n k) Q := by rw [z1p3 e]; exact h
theorem z1qv {A B : Type} {l : List B} {i : Nat} {f : B → Option A} {Q : A → Prop} (e : i < l.length) (h : Ok (f l[i]) Q) : Ok ((l[i]?).bind f) Q := by rw [getE e]; exact h
theorem z1lv {A B : Type} {l : List B} {i : Nat} {f : B → Option A} {Q : A → Prop} (e : i < l.length) (h : Ok (f l[i]) Q) : Ok ((idxI l (i : Int)).bind f) Q := by rw [z1r8 e]; exact h
theorem z1pb {A B : Type} {l : List B} {f : B → Option A} {Q : A → Prop} (e : 0 < l.length) (h : Ok (f l[0]) Q) : Ok ((idxI l 0).bind f) Q := z1lv (i := 0) e h
theorem z0j {A B C : Type} {y : A} {f : A → Option C} {g : B → Option C} {Q : C → Prop} (h : Ok (f y) Q) : Ok (Sum.elim f g (Sum.inl y)) Q := h
theorem z0l {A B C : Type} {y : B} {f : A → Option C} {g : B → Option C} {Q : C → Prop} (h : Ok (g y) Q) : Ok (Sum.elim f g (Sum.inr y)) Q := h
theorem z1g6 {A : Type} {u : U} {a b : u.T} {x y : Option A} {Q : A → Prop} (hu : u.cmp = true) (h : a = b → Ok x Q) (g : ¬ a = b → Ok y Q) : Ok (bif eqU u a b then x else y) Q := by
 cases e : eqU u a b with
 | true => exact h ((zj1 hu).1 e)
 | false => exact g fun h => by rw [(zj1 hu).2 h] at e; cases e
theorem z1qm {A B : Type} {F : (A → Option B) → A → Option B} (hF : MonoR F) {n : Nat} {x : A} {Q : B → Prop} (h : Ok (iterR F n x) Q) : Ok (recC F x) Q := by
 obtain ⟨y, h1, h2⟩ := h
 exact ⟨y, z1pt hF h1, h2⟩
def Rnd {S X : Type} (I : S → Prop) (Q : X → Prop) : S ⊕ X → Prop
 | .inl s => I s
 | .inr x => Q x
theorem z0f {S X : Type} {I : S → Prop} {Q : X → Prop} {s : S} (h : I s) : Rnd I Q (.inl s : S ⊕ X) := h
theorem z0g {S X : Type} {I : S → Prop} {Q : X → Prop} {x : X} (h : Q x) : Rnd I Q (.inr x : S ⊕ X) := h
theorem z1q0 {S X : Type} {F : S → Option (S ⊕ X)} {s : S} {Q : X → Prop} (n : Nat) (I : Nat → S → Prop) (h0 : I 0 s)
   (step : ∀ i s, i ≤ n → I i s → Ok (F s) (Rnd (fun s' => i < n ∧ I (i + 1) s') Q)) : Ok (loopC F s) Q := by
 have key : ∀ k i s, i + k = n → I i s → Ok (loopC F s) Q := by
   intro k
   induction k with
   | zero =>
     intro i s hi h
     obtain ⟨r, h1, h2⟩ := step i s (by omega) h
     rw [zz9, h1]
     cases r with
     | inl s' => have : i < n ∧ I (i + 1) s' := h2; omega
     | inr x => exact ⟨x, rfl, h2⟩
   | succ k ih =>
     intro i s hi h
     obtain ⟨r, h1, h2⟩ := step i s (by omega) h
     rw [zz9, h1]
     cases r with
     | inl s' => exact ih (i + 1) s' (by omega) h2.2
     | inr x => exact ⟨x, rfl, h2⟩
 exact key n 0 s (by omega) h0
theorem z1y {S X A : Type} {F : S → Option (S ⊕ X)} {s : S} {Q : X → Prop} (n : Nat) (st : Nat → A → S) (I : Nat → A → Prop) (a : A) (hs : s = st 0 a) (h0 : I 0 a)
   (last : ∀ a, I n a → Ok (F (st n a)) (Rnd (fun _ => False) Q)) (step : ∀ i a, i < n → I i a → Ok (F (st i a)) (Rnd (fun s' => ∃ a', s' = st (i + 1) a' ∧ I (i + 1) a') Q)) : Ok (loopC F s) Q := by
 subst hs
 refine z1q0 n (fun i s => ∃ a, s = st i a ∧ I i a) ⟨a, rfl, h0⟩ fun i s hi ⟨a, e, hI⟩ => ?_
 subst e
 by_cases hn : i = n
 · subst hn
   refine z8i (last a hI) fun r hr => ?_
   cases r with
   | inl s' => exact hr.elim
   | inr x => exact hr
 · refine z8i (step i a (by omega) hI) fun r hr => ?_
   cases r with
   | inl s' => exact ⟨by omega, hr⟩
   | inr x => exact hr
theorem qs {A : Type} {n : Nat} {k : Option A} {Q : A → Prop} (h : Ok k Q) (e : n ≤ 9223372036854775807 := by omega) : Ok (z1f n k) Q := zaw e h
theorem qb {A : Type} {n m : Nat} {x y : Option A} {Q : A → Prop} (h : Ok x Q) (e : n = m := by first | rfl | omega | (simp only [List.length_set, List.length_append, List.length_cons, List.length_nil, List.length_replicate, List.length_take, List.length_drop, List.length_map, Int.toNat_natCast] <;> omega)) : Ok (bif Nat.beq n m then x else y) Q := zmc e h
theorem qw {A B : Type} {l : List B} {i n : Nat} {k : List B → Option A} {Q : A → Prop} (h : Ok (k ((l.drop i).take n)) Q) (e : i + n ≤ l.length := by first | omega | (simp only [List.length_set, List.length_append, List.length_cons, List.length_nil, List.length_replicate, List.length_take, List.length_drop, List.length_map, Int.toNat_natCast] <;> omega)) : Ok (winK l i n k) Q := z1p5 e h
theorem qi {A : Type} {i : Int} {n : Nat} {x y : Option A} {Q : A → Prop} (h : Ok x Q) (e : 0 ≤ i ∧ i < n := by first | omega | (simp only [List.length_set, List.length_append, List.length_cons, List.length_nil, List.length_replicate, List.length_take, List.length_drop, List.length_map, Int.toNat_natCast] <;> omega)) : Ok (bif inI i n then x else y) Q := ok_in e h
theorem qa {A : Type} {n m nb : Nat} {k : Unit → Option A} {Q : A → Prop} (h : Ok (k ()) Q) (e : (n + m) * nb ≤ 140737488355328 := by first | omega | (simp only [List.length_set, List.length_append, List.length_cons, List.length_nil, List.length_replicate, List.length_take, List.length_drop, List.length_map, Int.toNat_natCast] <;> omega)) : Ok (appG n m nb k) Q := z1ra e h
theorem qc {A : Type} {a b : List Int} {k : Unit → Option A} {Q : A → Prop} (h : Ok (k ()) Q) (e : a.length + b.length ≤ 9223372036854775807 := by first | omega | (simp only [List.length_set, List.length_append, List.length_cons, List.length_nil, List.length_replicate, List.length_take, List.length_drop, List.length_map, Int.toNat_natCast] <;> omega)) : Ok (catG a b k) Q := z1qz e h
theorem ql {A : Type} {n m : Nat} {x y : Option A} {Q : A → Prop} (h : Ok x Q) (e : n ≤ m := by first | omega | (simp only [List.length_set, List.length_append, List.length_cons, List.length_nil, List.length_replicate, List.length_take, List.length_drop, List.length_map, Int.toNat_natCast] <;> omega)) : Ok (bif Nat.ble n m then x else y) Q := z1ar e h
theorem qp {A : Type} {l h : Int} {n : Nat} {x y : Option A} {Q : A → Prop} (k : Ok x Q) (e : 0 ≤ l ∧ l ≤ h ∧ h ≤ n := by first | omega | (simp only [List.length_set, List.length_append, List.length_cons, List.length_nil, List.length_replicate, List.length_take, List.length_drop, List.length_map, Int.toNat_natCast] <;> omega)) : Ok (bif subOk l h n then x else y) Q := z1rd e k
theorem qu {A : Type} {u : U} {a b : u.T} {x y : Option A} {Q : A → Prop} (h : a = b → Ok x Q) (g : ¬ a = b → Ok y Q) (hu : u.cmp = true := by with_unfolding_all exact rfl) : Ok (bif eqU u a b then x else y) Q := z1g6 hu h g
theorem qg {A B : Type} {l : List B} {i : Nat} {f : B → Option A} {Q : A → Prop} (e : i < l.length := by first | omega | (simp only [List.length_set, List.length_append, List.length_cons, List.length_nil, List.length_replicate, List.length_take, List.length_drop, List.length_map, Int.toNat_natCast] <;> omega)) (h : Ok (f l[i]) Q) : Ok ((l[i]?).bind f) Q := z1qv e h
theorem qx {A B : Type} {l : List B} {i : Nat} {f : B → Option A} {Q : A → Prop} (e : i < l.length := by first | omega | (simp only [List.length_set, List.length_append, List.length_cons, List.length_nil, List.length_replicate, List.length_take, List.length_drop, List.length_map, Int.toNat_natCast] <;> omega)) (h : Ok (f l[i]) Q) : Ok ((idxI l (i : Int)).bind f) Q := z1lv e h
theorem qy {A B : Type} {l : List B} {f : B → Option A} {Q : A → Prop} (e : 0 < l.length := by first | omega | (simp only [List.length_set, List.length_append, List.length_cons, List.length_nil, List.length_replicate, List.length_take, List.length_drop, List.length_map, Int.toNat_natCast] <;> omega)) (h : Ok (f l[0]) Q) : Ok ((idxI l 0).bind f) Q := z1pb e h
end Go.Tm