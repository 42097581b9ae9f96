import Derived.Test.YtomgkgngbpnngaaGreatDoorCzDtoCzI
import Derived.Test.YtomgkgngbpnngaaGreatDoorRows
import Derived.Stop.LaidErr
import Derived.Lib.LaidTab
import Derived.ProofKit
import Derived.Lay
import Derived.LaidMore
import Derived.Test.YtomgkgngbpnngaaGreatDoorCzEtoCzC
set_option maxRecDepth 100000
set_option linter.unusedVariables false
set_option linter.unusedSimpArgs false
namespace Go.Proofs.YtomgkgngbpnngaaGreatDoor
open Go.Tm Go.Ab Go.Lib
def zel (l : List (List Int)) : Bool := decide (l.length ≤ 20) && l.all fun s => decide (s.length ≤ 200)
theorem zvh {l : List (List Int)} (h1 : l.length ≤ maxLen) (h2 : ∀ s, s ∈ l → s.length ≤ maxLen) : z9t l = some (zel l) := by
 unfold maxLen at h1 h2
 refine ok_is ?_
 unfold z9t zel
 repeat' first
   | (dsimp only [Int.toNat_natCast, List.length_nil])
   | with_reducible first | refine z2q ?_ | refine z2s ?_ | refine z1d ?_ | refine z2r ?_ | refine z1x ?_ | refine z3z ?_ | refine qs ?_ | refine qb ?_ | refine z4a ?_ | refine qw ?_ | refine z4d ?_ | refine z3y ?_ | refine qi ?_ | refine qg (h := ?_) | refine qx (h := ?_) | refine qy (h := ?_) | refine qa ?_ | refine qc ?_ | refine ql ?_ | refine qp ?_ | refine z2k ?_ | rfl
   | (with_reducible first | refine ok_lt ?_ ?_ | refine ok_le ?_ ?_ | refine z4e ?_ ?_ | refine z3x ?_ ?_ | refine z4f ?_ ?_ | refine qu ?_ ?_ | refine ok_if ?_ ?_) <;> intro _ <;> try (exfalso; omega)
 · rw [decide_eq_false (by omega)]; rfl
 · rw [decide_eq_true (by omega)]
   have hloop : loopC z1f (l, (l.length : Int), 0) = some (if (l.any fun s => !decide (s.length ≤ 200)) = true then .inr false else .inl ()) := by
     refine zsv _ l (fun i => (l, (l.length : Int), (i : Int))) (fun s => !decide (s.length ≤ 200)) _ _ ?_ fun i hi => ?_
     · unfold z1f z6w
       dsimp only
       rw [ltI_f (by omega)]; rfl
     · unfold z1f z6w
       dsimp only
       have := h2 l[i] (List.getElem_mem hi)
       rw [ltI_t (by omega), cond_true, z9k hi, z6g (by omega)]
       simp only [Option.bind_some]
       rw [z4j (by omega)]
       by_cases e : l[i].length ≤ 200
       · rw [ltI_f (by omega), decide_eq_true e]; rfl
       · rw [ltI_t (by omega), decide_eq_false e]; rfl
   have hany : (l.any fun s => !decide (s.length ≤ 200)) = !(l.all fun s => decide (s.length ≤ 200)) := by rw [List.not_all_eq_any_not]
   rw [hloop, hany]
   cases (l.all fun s => decide (s.length ≤ 200)) <;> exact z1d (z1d rfl)
def scanE {A B X : Type} (f : Nat → A → B → A ⊕ X) (fin : A → X) : Nat → List B → A → X
 | _, [], a => fin a
 | i, b :: l, a => match f i a b with
   | .inl a' => scanE f fin (i + 1) l a'
   | .inr x => x
theorem zhx {S X A B : Type} (F : S → Option (S ⊕ X)) (l : List B) (st : Nat → A → S) (f : Nat → A → B → A ⊕ X) (fin : A → X) (I : Nat → A → Prop)
   (last : ∀ a, I l.length a → F (st l.length a) = some (.inr (fin a)))
   (step : ∀ i (hi : i < l.length) a, I i a → (∃ a', f i a l[i] = .inl a' ∧ I (i + 1) a' ∧ F (st i a) = some (.inl (st (i + 1) a'))) ∨ (∃ x, f i a l[i] = .inr x ∧ F (st i a) = some (.inr x)))
   {a : A} (h0 : I 0 a) : loopC F (st 0 a) = some (scanE f fin 0 l a) := by
 have key : ∀ k i a, i + k = l.length → I i a → loopC F (st i a) = some (scanE f fin i (l.drop i) a) := by
   intro k
   induction k with
   | zero =>
     intro i a h hI
     rw [show i = l.length by omega] at hI ⊢
     rw [ze9, last a hI, List.drop_length]; rfl
   | succ k ih =>
     intro i a h hI
     have hi : i < l.length := by omega
     rw [ze9, List.drop_eq_getElem_cons hi, scanE]
     rcases step i hi a hI with ⟨a', h1, h2, h3⟩ | ⟨x, h1, h3⟩
     · rw [h3, h1]
       exact ih (i + 1) a' (by omega) h2
     · rw [h3, h1]; rfl
 simpa using key l.length 0 a (by omega) h0
theorem zhk {B X : Type} (p : B → Bool) (yes : Nat → B → X) (no : X) : ∀ (l : List B) (i : Nat),
   (l.any p = false ∧ scanE (fun i (_ : Unit) b => if p b = true then .inr (yes i b) else .inl ()) (fun _ => no) i l () = no) ∨
   (l.any p = true ∧ ∃ j b, i ≤ j ∧ scanE (fun i (_ : Unit) b => if p b = true then .inr (yes i b) else .inl ()) (fun _ => no) i l () = yes j b)
 | [], i => .inl ⟨rfl, rfl⟩
 | b :: l, i => by
   rw [scanE, List.any_cons]
   cases hp : p b with
   | true => exact .inr ⟨rfl, i, b, Nat.le_refl _, by rfl⟩
   | false =>
     simp only [Bool.false_eq_true, if_false, Bool.false_or]
     rcases zhk p yes no l (i + 1) with h | ⟨h, j, b', hj, e⟩
     · exact .inl h
     · exact .inr ⟨h, j, b', by omega, e⟩
def z3a (l : List (List Int)) (s : List Int) : Bool := l.any fun t => !decide (t = s) && z1m s t
def pathI (s : List Int) : Bool := decide ((z0y s).2 = 0)
theorem z11e (s : List Int) : (z0y s).2 = 0 ∨ (z0y s).2 = 20 := by
 unfold z0y
 repeat' split
 all_goals simp
theorem zyd {l m : List (List Int)} (h : ∀ x, x ∈ l ↔ x ∈ m) (s : List Int) : z3a l s = z3a m s := by
 unfold z3a
 rw [Bool.eq_iff_iff, List.any_eq_true, List.any_eq_true]
 exact ⟨fun ⟨x, hx, e⟩ => ⟨x, (h x).1 hx, e⟩, fun ⟨x, hx, e⟩ => ⟨x, (h x).2 hx, e⟩⟩
def zaj (l : List (List Int)) : List (List Int) × Int :=
 if l.all pathI = true then
   if 8 < ((setL l).filter fun s => !z3a l s).length then ([], 4) else ((setL l).filter fun s => !z3a l s, 0)
 else ([], 20)
theorem zw3 (l : List (List Int)) : (sortL l).length = l.length := by simp [sortL]
theorem z16c (l : List (List Int)) : (setL l).length ≤ l.length := by
 unfold setL compL
 rw [List.length_map]
 refine Nat.le_trans (Lib.compact_length_le _) ?_
 rw [List.length_map, zw3]; exact Nat.le_refl _
structure Few (l : List (List Int)) : Prop where
 bs : ∀ s, s ∈ l → Bs s
 len : l.length ≤ 100
 short : ∀ s, s ∈ l → s.length ≤ 1000
theorem z13g {m : List (List Int)} (hm : Few m) {x : List Int} (hx : Bs x) (hl : x.length ≤ 1000) (t16 out : List (List Int)) (t17 t18 : Int) :
   (z3a m x = false ∧ loopC z0a (m, x, t16, t17, t18, m, (List.length m : Int), 0, out) = some (.inr (m, x, t16, t17, t18, out))) ∨
   (z3a m x = true ∧ ∃ t, loopC z0a (m, x, t16, t17, t18, m, (List.length m : Int), 0, out) = some (.inl (m, t16, t17, t18, x, t, true, out))) := by
 have hloop : loopC z0a (m, x, t16, t17, t18, m, (List.length m : Int), ((0 : Nat) : Int), out) =
     some (scanE (fun i (_ : Unit) t => if (!decide (t = x) && z1m x t) = true then .inr (.inl (m, t16, t17, t18, x, t, true, out)) else .inl ()) (fun _ => .inr (m, x, t16, t17, t18, out)) 0 m ()) := by
   refine zhx _ m (fun i (_ : Unit) => (m, x, t16, t17, t18, m, (List.length m : Int), (i : Int), out)) _ _ (fun _ _ => True) (fun _ _ => ?_) (fun i hi _ _ => ?_) trivial
   · unfold z0a z1j
     dsimp only
     rw [ltI_f (by omega), beq_self]; rfl
   · unfold z0a z1j
     dsimp only
     have hlen := hm.len
     have hmem := List.getElem_mem hi
     rw [ltI_t (by omega), cond_true, z9k hi, z6g (by omega)]
     simp only [Option.bind_some]
     rw [zm5 hx (hm.bs _ hmem) hl (hm.short _ hmem)]
     simp only [Option.bind_some]
     by_cases e : m[i] = x
     · left
       exact ⟨(), by rw [decide_eq_true e]; rfl, trivial, by rw [eqS_t e, beq_self]; rfl⟩
     · cases hw : z1m x m[i] with
       | false =>
         left
         exact ⟨(), by rw [decide_eq_false e]; rfl, trivial, by rw [eqS_f e, beq_self]; rfl⟩
       | true =>
         right
         exact ⟨_, by rw [decide_eq_false e]; rfl, by rw [eqS_f e, beq_self]; rfl⟩
 have hz : ((0 : Nat) : Int) = 0 := rfl
 rw [hz] at hloop
 rcases zhk (fun t => !decide (t = x) && z1m x t) (fun _ t => (Sum.inl (m, t16, t17, t18, x, t, true, out) : z1i)) (.inr (m, x, t16, t17, t18, out)) m 0 with ⟨h1, h2⟩ | ⟨h1, j, t, _, h2⟩
 · exact .inl ⟨h1, by rw [hloop]; exact congrArg some h2⟩
 · exact .inr ⟨h1, t, by rw [hloop]; exact congrArg some h2⟩
def stepI (m : List (List Int)) (_ : Nat) (out : List (List Int)) (s : List Int) : List (List Int) ⊕ z0v :=
 if pathI s = true then (if z3a m s = true then .inl out else .inl (out ++ [s])) else .inr (.inr ([], 20))
theorem zmq (m : List (List Int)) : ∀ (l : List (List Int)) (i : Nat) (out : List (List Int)),
   scanE (stepI m) (fun out => (Sum.inl out : z0v)) i l out = if l.all pathI = true then .inl (out ++ l.filter fun s => !z3a m s) else .inr ([], 20)
 | [], i, out => by simp [scanE]
 | s :: l, i, out => by
   rw [scanE]
   unfold stepI
   cases hp : pathI s with
   | false => simp [hp]
   | true =>
     cases hu : z3a m s with
     | true =>
       simp only [if_true]
       rw [show scanE (fun (_ : Nat) out s => if pathI s = true then (if z3a m s = true then .inl out else .inl (out ++ [s])) else .inr (.inr ([], 20))) (fun out => (Sum.inl out : z0v)) (i + 1) l out = _ from zmq m l (i + 1) out]
       simp [hp, hu]
     | false =>
       simp only [if_true, Bool.false_eq_true, if_false]
       rw [show scanE (fun (_ : Nat) out s => if pathI s = true then (if z3a m s = true then .inl out else .inl (out ++ [s])) else .inr (.inr ([], 20))) (fun out => (Sum.inl out : z0v)) (i + 1) l (out ++ [s]) = _ from zmq m l (i + 1) (out ++ [s])]
       simp [hp, hu]
theorem z14b {m : List (List Int)} (hm : Few m) :
   loopC z0f (m, m, (List.length m : Int), 0, []) = some (if m.all pathI = true then .inl (m.filter fun s => !z3a m s) else .inr ([], 20)) := by
 have hloop : loopC z0f (m, m, (List.length m : Int), ((0 : Nat) : Int), []) = some (scanE (stepI m) (fun out => (Sum.inl out : z0v)) 0 m []) := by
   refine zhx _ m (fun i out => (m, m, (List.length m : Int), (i : Int), out)) _ _ (fun i out => out.length ≤ i) (fun out _ => ?_) (fun i hi out hI => ?_) (Nat.le_refl _)
   · unfold z0f z1t
     dsimp only
     rw [ltI_f (by omega), beq_self]; rfl
   · have hlen := hm.len
     have hmem := List.getElem_mem hi
     have hb := hm.bs _ hmem
     have hs := hm.short _ hmem
     unfold stepI
     cases hp : pathI m[i] with
     | false =>
       right
       refine ⟨.inr ([], 20), rfl, ?_⟩
       unfold z0f z1t
       dsimp only
       rw [ltI_t (by omega), cond_true, z9k hi]
       simp only [Option.bind_some]
       rw [zgt hb hs]
       simp only [Option.bind_some]
       have h0 : ¬ (z0y m[i]).2 = 0 := by simpa [pathI] using hp
       have h20 : (z0y m[i]).2 = 20 := by rcases z11e m[i] with h | h; exact absurd h h0; exact h
       rw [neI_t h0, h20]; rfl
     | true =>
       left
       have h0 : (z0y m[i]).2 = 0 := by simpa [pathI] using hp
       rcases z13g hm hb hs m out (List.length m : Int) (i : Int) with ⟨h1, h2⟩ | ⟨h1, t, h2⟩
       · refine ⟨out ++ [m[i]], by rw [h1]; rfl, by simp; omega, ?_⟩
         unfold z0f z1t
         dsimp only
         rw [ltI_t (by omega), cond_true, z9k hi]
         simp only [Option.bind_some]
         rw [zgt hb hs]
         simp only [Option.bind_some]
         rw [neI_f h0, cond_false, z4j (by omega), beq_self, cond_true, h2]
         simp only [Option.bind_some, Sum.elim_inr]
         rw [beq_self, cond_true, z10z (by simp; omega), beq_self, cond_true, z6g (by omega)]
       · refine ⟨out, by rw [h1]; rfl, by omega, ?_⟩
         unfold z0f z1t
         dsimp only
         rw [ltI_t (by omega), cond_true, z9k hi]
         simp only [Option.bind_some]
         rw [zgt hb hs]
         simp only [Option.bind_some]
         rw [neI_f h0, cond_false, z4j (by omega), beq_self, cond_true, h2]
         simp only [Option.bind_some, Sum.elim_inl]
         rw [beq_self, cond_true, z6g (by omega)]
 have hz : ((0 : Nat) : Int) = 0 := rfl
 rw [hz] at hloop
 rw [hloop, zmq]
 simp
theorem zy4 {l : List (List Int)} (h : Few l) : Few (setL l) where
 bs := fun s hs => h.bs s (((ziu h.bs).2 s).1 hs)
 len := Nat.le_trans (z16c l) h.len
 short := fun s hs => h.short s (((ziu h.bs).2 s).1 hs)
theorem z14d {l m : List (List Int)} (h : ∀ x, x ∈ l ↔ x ∈ m) (p : List Int → Bool) : l.all p = m.all p := by
 rw [Bool.eq_iff_iff, List.all_eq_true, List.all_eq_true]
 exact ⟨fun g x hx => g x ((h x).2 hx), fun g x hx => g x ((h x).1 hx)⟩
theorem zu8 {l : List (List Int)} (h : Few l) : zak l = some (zaj l) := by
 have hlen := h.len
 have hs := ziu h.bs
 unfold zak
 rw [show zdb l = some l from rfl]
 simp only [Option.bind_some]
 have e1 : zft l = some (l, sortL l) := by
   unfold zft
   rw [ble_t (by omega)]; rfl
 have e2 : zeh (sortL l) = some (setL l) := by
   unfold zeh
   rw [ble_t (by rw [zw3]; omega)]; rfl
 rw [e1]
 simp only [Option.bind_some]
 rw [beq_self, cond_true, e2]
 simp only [Option.bind_some]
 have hf := zy4 h
 have hfl := hf.len
 rw [z4j (by omega), show Nat.beq 0 (List.length ([] : List (List Int))) = true from rfl, cond_true, z14b hf]
 have eu : (fun s => !z3a (setL l) s) = fun s => !z3a l s := funext fun s => by rw [zyd hs.2 s]
 rw [eu, z14d hs.2]
 unfold zaj
 simp only [Option.bind_some]
 cases hp : l.all pathI with
 | false => rfl
 | true =>
   simp only [if_true, Sum.elim_inl]
   have hfil : ((setL l).filter fun s => !z3a l s).length ≤ (setL l).length := List.length_filter_le _ _
   rw [z4j (by omega)]
   by_cases h8 : 8 < ((setL l).filter fun s => !z3a l s).length
   · rw [ltI_t (by omega), if_pos h8]; rfl
   · rw [ltI_f (by omega), if_neg h8, cond_false, zvy]
end Go.Proofs.YtomgkgngbpnngaaGreatDoor
set_option maxRecDepth 100000
set_option linter.unusedVariables false
set_option linter.unusedSimpArgs false
namespace Go.Proofs.YtomgkgngbpnngaaGreatDoor
open Go.Tm Go.Ab Go.Lib
def hasI (l : List (List Int)) (at_ : List Int) : Bool := l.isEmpty || l.any fun s => z1m at_ s
def zja (l : List (List Int)) (at_ : List Int) : Bool := hasI l at_ || l.any fun s => z1m s at_
theorem z12u {l : List (List Int)} (h : Few l) {a : List Int} (ha : Bs a) (hl : a.length ≤ 1000) : z6s l a = some (l.any fun s => z1m a s) := by
 have hlen := h.len
 unfold z6s zbv
 rw [z4j (by omega)]
 have hloop : loopC z0w (l, a, (List.length l : Int), ((0 : Nat) : Int)) =
     some (scanE (fun i (_ : Unit) s => if z1m a s = true then .inr (.inr (i : Int)) else .inl ()) (fun _ => .inl ()) 0 l ()) := by
   refine zhx _ l (fun i (_ : Unit) => (l, a, (List.length l : Int), (i : Int))) _ _ (fun _ _ => True) (fun _ _ => ?_) (fun i hi _ _ => ?_) trivial
   · unfold z0w z5q
     dsimp only
     rw [ltI_f (by omega)]; rfl
   · unfold z0w z5q zgj
     dsimp only
     have hmem := List.getElem_mem hi
     rw [ltI_t (by omega), cond_true, z9k hi, z6g (by omega)]
     simp only [Option.bind_some]
     rw [zm5 ha (h.bs _ hmem) hl (h.short _ hmem)]
     simp only [Option.bind_some]
     cases hw : z1m a l[i] with
     | false => left; exact ⟨(), rfl, trivial, rfl⟩
     | true => right; exact ⟨_, rfl, rfl⟩
 have hz : ((0 : Nat) : Int) = 0 := rfl
 rw [hz] at hloop
 rcases zhk (fun s => z1m a s) (fun i _ => (Sum.inr (i : Int) : z5p)) (.inl ()) l 0 with ⟨h1, h2⟩ | ⟨h1, j, t, _, h2⟩
 · rw [hloop, h1, h2]; rfl
 · rw [hloop, h1, h2]
   show some (leI 0 (j : Int)) = _
   rw [leI_t (by omega)]
theorem z12x {l : List (List Int)} (h : Few l) {a : List Int} (ha : Bs a) (hl : a.length ≤ 1000) : z5n l a = some (l.any fun s => z1m s a) := by
 have hlen := h.len
 unfold z5n zac
 rw [z4j (by omega)]
 have hloop : loopC z0p (l, a, (List.length l : Int), ((0 : Nat) : Int)) =
     some (scanE (fun i (_ : Unit) s => if z1m s a = true then .inr (.inr (i : Int)) else .inl ()) (fun _ => .inl ()) 0 l ()) := by
   refine zhx _ l (fun i (_ : Unit) => (l, a, (List.length l : Int), (i : Int))) _ _ (fun _ _ => True) (fun _ _ => ?_) (fun i hi _ _ => ?_) trivial
   · unfold z0p z5a
     dsimp only
     rw [ltI_f (by omega)]; rfl
   · unfold z0p z5a zdv
     dsimp only
     have hmem := List.getElem_mem hi
     rw [ltI_t (by omega), cond_true, z9k hi, z6g (by omega)]
     simp only [Option.bind_some]
     rw [zm5 (h.bs _ hmem) ha (h.short _ hmem) hl]
     simp only [Option.bind_some]
     cases hw : z1m l[i] a with
     | false => left; exact ⟨(), rfl, trivial, rfl⟩
     | true => right; exact ⟨_, rfl, rfl⟩
 have hz : ((0 : Nat) : Int) = 0 := rfl
 rw [hz] at hloop
 rcases zhk (fun s => z1m s a) (fun i _ => (Sum.inr (i : Int) : z5c)) (.inl ()) l 0 with ⟨h1, h2⟩ | ⟨h1, j, t, _, h2⟩
 · rw [hloop, h1, h2]; rfl
 · rw [hloop, h1, h2]
   show some (leI 0 (j : Int)) = _
   rw [leI_t (by omega)]
theorem zm2 {l : List (List Int)} (h : Few l) {a : List Int} (ha : Bs a) (hl : a.length ≤ 1000) : z5x l a = some (hasI l a) := by
 have hlen := h.len
 unfold z5x hasI
 rw [z4j (by omega)]
 cases l with
 | nil => rfl
 | cons x l =>
   rw [eqI_f (by simp; omega), cond_false, z12u h ha hl]; rfl
theorem zpj {l : List (List Int)} (h : Few l) {a : List Int} (ha : Bs a) (hl : a.length ≤ 1000) : z8l l a = some (zja l a) := by
 unfold z8l zja
 rw [zm2 h ha hl]
 simp only [Option.bind_some]
 cases hasI l a with
 | true => rfl
 | false => rw [cond_false, z12x h ha hl]; rfl
theorem z15y : Few [] := ⟨fun s h => by simp at h, by simp, fun s h => by simp at h⟩
theorem z14z : z8c = some true := by
 have hb : ∀ s, s ∈ ([[47, 98], [47, 97, 47, 99], [47, 97]] : List (List Int)) → Bs s := by
   intro s hs
   simp only [List.mem_cons, List.not_mem_nil, or_false] at hs
   rcases hs with rfl | rfl | rfl <;> (unfold Bs; decide)
 have hf : Few ([[47, 98], [47, 97, 47, 99], [47, 97]] : List (List Int)) := ⟨hb, by simp, fun s hs => by
   simp only [List.mem_cons, List.not_mem_nil, or_false] at hs
   rcases hs with rfl | rfl | rfl <;> simp⟩
 have hset : setL ([[47, 98], [47, 97, 47, 99], [47, 97]] : List (List Int)) = [[47, 97], [47, 97, 47, 99], [47, 98]] := by
   refine zw4 (ziu hb).1 (by unfold Inc; decide) fun x => ?_
   rw [(ziu hb).2]
   simp only [List.mem_cons, List.not_mem_nil, or_false]
   exact ⟨fun h => by rcases h with h | h | h <;> simp [h], fun h => by rcases h with h | h | h <;> simp [h]⟩
 have hc : zaj ([[47, 98], [47, 97, 47, 99], [47, 97]] : List (List Int)) = ([[47, 97], [47, 98]], 0) := by
   unfold zaj
   rw [hset]
   decide
 have hf2 : Few ([[47, 97], [47, 98]] : List (List Int)) := ⟨fun s hs => by
   simp only [List.mem_cons, List.not_mem_nil, or_false] at hs
   rcases hs with rfl | rfl <;> (unfold Bs; decide), by simp, fun s hs => by
   simp only [List.mem_cons, List.not_mem_nil, or_false] at hs
   rcases hs with rfl | rfl <;> simp⟩
 unfold z8c
 rw [zu8 hf, hc]
 simp only [Option.bind_some]
 have e1 : hasI [[47, 97], [47, 98]] [47, 97, 47, 120] = true := by decide
 have e2 : zja [] [47] = true := by decide
 rw [zm2 hf2 (by unfold Bs; decide) (by simp), e1, zpj z15y (by unfold Bs; decide) (by simp), e2]
 rfl
end Go.Proofs.YtomgkgngbpnngaaGreatDoor
set_option maxRecDepth 100000
set_option linter.unusedVariables false
set_option linter.unusedSimpArgs false
namespace Go.Proofs.YtomgkgngbpnngaaGreatDoor
open Go.Tm Go.Ab Go.Lib
theorem z5z {s t : List Int} : z1m s t = true ↔ pathI s = true ∧ pathI t = true ∧ (z0y t).1 <+: (z0y s).1 := by
 unfold z1m pathI
 simp only [Bool.and_eq_true, decide_eq_true_eq, List.isPrefixOf_iff_prefix]
 exact ⟨fun h => ⟨h.1.1, h.1.2, h.2⟩, fun h => ⟨⟨h.1, h.2.1⟩, h.2.2⟩⟩
theorem z15a {s t : List Int} (h1 : pathI s = true) (h2 : pathI t = true) (h : (z0y s).1 = (z0y t).1) : s = t := by
 unfold pathI at h1 h2
 rw [decide_eq_true_eq] at h1 h2
 rw [zui h1, zui h2, h]
theorem zwp {s : List Int} (h : pathI s = true) : z1m s s = true := z5z.2 ⟨h, h, List.prefix_rfl⟩
theorem zgv {a b c : List Int} (h1 : z1m a b = true) (h2 : z1m b c = true) : z1m a c = true := by
 rw [z5z] at *
 exact ⟨h1.1, h2.2.1, h2.2.2.trans h1.2.2⟩
theorem z12w {l : List (List Int)} {s : List Int} : z3a l s = true ↔ ∃ t, t ∈ l ∧ t ≠ s ∧ z1m s t = true := by
 unfold z3a
 rw [List.any_eq_true]
 simp only [Bool.and_eq_true, Bool.not_eq_true', decide_eq_false_iff_not]
theorem zzv {l : List (List Int)} : ∀ (n : Nat) {s : List Int}, s ∈ l → pathI s = true → (z0y s).1.length ≤ n → ∃ t, t ∈ l ∧ z1m s t = true ∧ z3a l t = false
 | n, s, hs, hp, hn => by
   cases hu : z3a l s with
   | false => exact ⟨s, hs, zwp hp, hu⟩
   | true =>
     obtain ⟨u, hul, hne, hw⟩ := z12w.1 hu
     have hw' := z5z.1 hw
     have hlen : (z0y u).1.length < (z0y s).1.length := by
       rcases Nat.lt_or_ge (z0y u).1.length (z0y s).1.length with h | h
       · exact h
       · exact absurd (z15a hw'.2.1 hp (hw'.2.2.eq_of_length_le h)) hne
     match n, hn with
     | 0, hn => omega
     | n + 1, hn =>
       obtain ⟨t, ht, hwt, hut⟩ := zzv n hul hw'.2.1 (by omega)
       exact ⟨t, ht, zgv hw hwt, hut⟩
theorem top {l : List (List Int)} {s : List Int} (hs : s ∈ l) (hp : pathI s = true) : ∃ t, t ∈ l ∧ z1m s t = true ∧ z3a l t = false := zzv _ hs hp (Nat.le_refl _)
def z8x (l : List (List Int)) : List (List Int) := (setL l).filter fun s => !z3a l s
theorem z6f {l : List (List Int)} (hb : ∀ s, s ∈ l → Bs s) {x : List Int} : x ∈ z8x l ↔ x ∈ l ∧ z3a l x = false := by
 unfold z8x
 rw [List.mem_filter, (ziu hb).2]
 simp
theorem z11b {l : List (List Int)} (h : ¬ (zaj l).2 = 0) : (zaj l).1 = [] := by
 unfold zaj at h ⊢
 repeat' split
 all_goals first | rfl | skip
 rename_i h1 h2
 rw [if_pos h1, if_neg h2] at h
 exact absurd rfl h
theorem z14n {l : List (List Int)} (h : (zaj l).2 = 0) : (zaj l).1 = z8x l ∧ l.all pathI = true ∧ (z8x l).length ≤ 8 := by
 unfold zaj at h ⊢
 split at h
 · rename_i h1
   split at h
   · cases h
   · rename_i h2
     rw [if_pos h1, if_neg h2]
     exact ⟨rfl, h1, by unfold z8x; omega⟩
 · cases h
theorem zxb {l : List (List Int)} (h : Few l) : Few (z8x l) where
 bs := fun s hs => h.bs s ((z6f h.bs).1 hs).1
 len := Nat.le_trans (List.length_filter_le _ _) (zy4 h).len
 short := fun s hs => h.short s ((z6f h.bs).1 hs).1
theorem ztt {l : List (List Int)} (hb : ∀ s, s ∈ l → Bs s) (hp : l.all pathI = true) : (z8x l).isEmpty = l.isEmpty := by
 cases l with
 | nil =>
   have : z8x [] = [] := by
     rw [List.eq_nil_iff_forall_not_mem]
     intro x hx
     have := ((z6f hb).1 hx).1
     simp at this
   rw [this]
 | cons s l =>
   obtain ⟨t, ht, _, hu⟩ := top (l := s :: l) (s := s) (by simp) (List.all_eq_true.1 hp s (by simp))
   have := (z6f hb).2 ⟨ht, hu⟩
   cases hc : z8x (s :: l) with
   | nil => rw [hc] at this; simp at this
   | cons _ _ => rfl
theorem zub {l : List (List Int)} (hb : ∀ s, s ∈ l → Bs s) (hp : l.all pathI = true) (a : List Int) : hasI (z8x l) a = hasI l a := by
 unfold hasI
 rw [ztt hb hp]
 congr 1
 rw [Bool.eq_iff_iff, List.any_eq_true, List.any_eq_true]
 refine ⟨fun ⟨x, hx, h⟩ => ⟨x, ((z6f hb).1 hx).1, h⟩, fun ⟨x, hx, h⟩ => ?_⟩
 obtain ⟨t, ht, hw, hu⟩ := top hx (List.all_eq_true.1 hp x hx)
 exact ⟨t, (z6f hb).2 ⟨ht, hu⟩, zgv h hw⟩
theorem z11z {A B C : List (List Int)} (h1 : A <+: C) (h2 : B <+: C) : A <+: B ∨ B <+: A := by
 rcases Nat.le_total A.length B.length with h | h
 · exact .inl (List.prefix_of_prefix_length_le h1 h2 h)
 · exact .inr (List.prefix_of_prefix_length_le h2 h1 h)
theorem zzh {l : List (List Int)} (hb : ∀ s, s ∈ l → Bs s) (hp : l.all pathI = true) (a : List Int) : zja (z8x l) a = zja l a := by
 unfold zja
 rw [zub hb hp]
 cases hh : hasI l a with
 | true => rfl
 | false =>
   simp only [Bool.false_or]
   rw [Bool.eq_iff_iff, List.any_eq_true, List.any_eq_true]
   refine ⟨fun ⟨x, hx, h⟩ => ⟨x, ((z6f hb).1 hx).1, h⟩, fun ⟨x, hx, h⟩ => ?_⟩
   obtain ⟨t, ht, hw, hu⟩ := top hx (List.all_eq_true.1 hp x hx)
   have h' := z5z.1 h
   have hw' := z5z.1 hw
   rcases z11z hw'.2.2 h'.2.2 with h1 | h1
   · -- t above a: then a is chosen
     have : hasI l a = true := by
       unfold hasI
       rw [Bool.or_eq_true, List.any_eq_true]
       exact .inr ⟨t, ht, z5z.2 ⟨h'.2.1, hw'.2.1, h1⟩⟩
     rw [hh] at this; cases this
   · exact ⟨t, (z6f hb).2 ⟨ht, hu⟩, z5z.2 ⟨hw'.2.1, h'.2.1, h1⟩⟩
theorem z11k (c : Int) : ∀ s : List Int, z0r c s ≠ []
 | [] => by simp [z0r]
 | x :: s => by
   rw [z0r]
   split
   · simp
   · split <;> simp
theorem zr6 (c : Int) (b : List Int) : ∀ a : List Int, z0r c (a ++ c :: b) = z0r c a ++ z0r c b
 | [] => by simp [z0r]
 | x :: a => by
   rw [List.cons_append, z0r, z0r, zr6 c b a]
   split
   · rfl
   · cases hp : z0r c a with
     | nil => exact absurd hp (z11k c a)
     | cons p ps => rfl
theorem zqv {s : List Int} (h : pathI s = true) : (s = [47] ∧ (z0y s).1 = []) ∨ (s ≠ [47] ∧ s.head? = some 47 ∧ (z0y s).1 = z0r 47 s.tail) := by
 unfold pathI at h
 rw [decide_eq_true_eq] at h
 unfold z0y at h ⊢
 split at h
 · cases h
 · rename_i h0
   rw [if_neg h0]
   split at h
   · rename_i h1
     rw [if_pos h1]
     exact .inl ⟨h1, rfl⟩
   · rename_i h1
     rw [if_neg h1]
     split at h
     · cases h
     · rename_i h2
       rw [if_neg h2]
       refine .inr ⟨h1, ?_, rfl⟩
       rcases Decidable.em (s.head? = some 47) with h3 | h3
       · exact h3
       · exact absurd (.inr h3) h0
theorem zvx {a p : List Int} (h1 : pathI a = true) (h2 : pathI (a ++ 47 :: p) = true) : z1m (a ++ 47 :: p) a = true := by
 refine z5z.2 ⟨h2, h1, ?_⟩
 rcases zqv h1 with ⟨_, e⟩ | ⟨_, hh, e⟩
 · rw [e]; exact List.nil_prefix
 · rcases zqv h2 with ⟨e2, _⟩ | ⟨_, _, e2⟩
   · cases a with
     | nil => simp at hh
     | cons x a =>
       have := congrArg List.length e2
       simp at this
   · rw [e, e2]
     cases a with
     | nil => simp at hh
     | cons x a =>
       simp only [List.tail_cons, List.cons_append]
       rw [zr6]
       exact List.prefix_append _ _
theorem z12i {l : List (List Int)} {a p : List Int} (h : hasI l a = true) (hp : pathI (a ++ 47 :: p) = true) : hasI l (a ++ 47 :: p) = true := by
 unfold hasI at h ⊢
 rw [Bool.or_eq_true, List.any_eq_true] at h ⊢
 rcases h with h | ⟨x, hx, h⟩
 · exact .inl h
 · exact .inr ⟨x, hx, zgv (zvx (z5z.1 h).1 hp) h⟩
theorem zzk {s : List Int} (hb : Bs s) (hl : s.length ≤ 1000) : zfj s = some (pathI s) := by
 unfold zfj
 rw [zx9 hb hl]
 rfl
theorem z17j {l : List (List Int)} (hb : ∀ s, s ∈ l → Bs s) (h : zel l = true) : Few l := by
 unfold zel at h
 simp only [Bool.and_eq_true, decide_eq_true_eq, List.all_eq_true] at h
 exact ⟨hb, by omega, fun s hs => by have := h.2 s hs; omega⟩
end Go.Proofs.YtomgkgngbpnngaaGreatDoor
set_option maxRecDepth 100000
set_option linter.unusedVariables false
namespace Go.Proofs.YtomgkgngbpnngaaGreatDoor
open Go.Ab Go.RowKit
theorem zzp (u : TypeId) (h : Tryz.prog.typeName? 3 u = some "*errors.errorString") : u = 120 :=
 typeName_ptr_named (nm := "errors.errorString") (by kernel_rfl) (by kernel_rfl) (by decide) u h
theorem zy7 {W : World} (hL : laidMetH Tryz.prog Rows.chooseCleansRow.laid W) : gb ≤ W.heap.size ∧ Glob W := by
 have hL0 : laidMet Tryz.prog Rows.chooseCleansRow.laid W := by
   rw [MakeChecks.laidMetH_plain _ _ _ (by kernel_rfl)] at hL
   exact hL
 have h1 := hL0.tail
 have h2 := h1.tail
 have h3 := h2.tail
 have h4 := h3.tail
 have h5 := h4.tail
 have ht : Lib.TabIs Tryz.prog W "internal/strconv.uint64pow10" .u64 Lib.pow10Tab :=
   Lib.tabIs_of_head (g := 5) (t := 116) (e := 68) (n := 20) (by kernel_rfl) (by kernel_rfl) (by kernel_rfl) (by kernel_rfl) (by kernel_rfl) (by kernel_rfl) h2
 obtain ⟨a0, s0, hv0, -, -, -⟩ := laid_sentinel h4 (g := 4) (by kernel_rfl) (by kernel_rfl) Tryz.underlying74 zzp Tryz.underlying120 Tryz.underlying122 rfl rfl Tryz.underlying9 (by kernel_rfl) (by kernel_rfl)
 obtain ⟨a1, s1, hv1, -, -, -⟩ := laid_sentinel h5 (g := 3) (by kernel_rfl) (by kernel_rfl) Tryz.underlying74 zzp Tryz.underlying120 Tryz.underlying122 rfl rfl Tryz.underlying9 (by kernel_rfl) (by kernel_rfl)
 refine ⟨?_, ht, ⟨_, _, hv1⟩, ⟨_, _, hv0⟩⟩
 obtain ⟨ps, ⟨g, t, cs, fuel, p, q, hg, _, hv, _, _, _⟩, _⟩ := h1
 have hg7 : g = 7 := (Option.some.inj (hg.symm.trans (show Tryz.prog.globalNamed "math/bits.deBruijn64tab" = some 7 by kernel_rfl)))
 subst hg7
 unfold World.var? at hv
 rw [hg] at hv
 simp only [Option.bind_some] at hv
 have : 7 < W.heap.size := by
   rcases Nat.lt_or_ge 7 W.heap.size with h' | h'
   · exact h'
   · rw [Array.getElem?_eq_none h'] at hv; cases hv
 exact this
end Go.Proofs.YtomgkgngbpnngaaGreatDoor
set_option maxRecDepth 100000
set_option linter.unusedVariables false
noncomputable section
namespace Go.Proofs.YtomgkgngbpnngaaGreatDoor
open Go.Tm Go.Ab
def zld : Env := ⟨[(entQ zky zim), (entQ zl6 zii), (entQ zdq zd0), (entQ zcp zbp), (entQ zdz zdf), (entQ zmp zkv)], [], []⟩
theorem zit : EnvsOK Tryz.prog zld := ⟨z0k (z0s zru) (z0k (z0s zrl) (z0k (z0s zhw) (z0k (z0s zf3) (z0k (z0s zho) (z0k (z0s ztl) (z1l _)))))), z1b _, z1a _⟩
def zcc : Shp := ⟨1, 0, [(0, .d .bool)], []⟩
def zdo : XS := .one .ret zcc.xe
theorem zia : zdo.OK := XS.one_ok (z0d zcc)
def zb5 (l : List (List Int)) (t1 : List Int) (part : List Int) : Option ((Bool)) :=
 (z8c).bind fun r =>
 bif !r then
 (z8c).bind fun r2 =>
 some r2
 else
 (z9t l).bind fun r3 =>
 bif !r3 then
 (z8c).bind fun r4 =>
 some r4
 else
 (z9t ([t1, part] : List (List Int))).bind fun r5 =>
 bif !r5 then
 (z8c).bind fun r6 =>
 some r6
 else
 (zak l).bind fun r7 =>
 bif neI r7.2 0 then
 z0l (List.length r7.1) (
 some (eqI (List.length r7.1 : Nat) 0))
 else
 (z5x r7.1 t1).bind fun r8 =>
 (z5x l t1).bind fun r9 =>
 bif !(r8 == r9) then
 some false
 else
 (z8l r7.1 t1).bind fun r10 =>
 (z8l l t1).bind fun r11 =>
 bif !(r10 == r11) then
 some false
 else
 (z5x l t1).bind fun r12 =>
 bif !r12 then
 some true
 else
 catG t1 ([47] : List Int) fun _ =>
 catG (t1 ++ ([47] : List Int)) part fun _ =>
 (zfj ((t1 ++ ([47] : List Int)) ++ part)).bind fun r13 =>
 bif !r13 then
 some true
 else
 catG t1 ([47] : List Int) fun _ =>
 catG (t1 ++ ([47] : List Int)) part fun _ =>
 (z5x l ((t1 ++ ([47] : List Int)) ++ part)).bind fun r14 =>
 some r14
def zlf : Sig := ⟨3, [.d (.sl .str), .d .str, .d .str], [], 0, zdo⟩
def zcw (x : (List (List Int)) × (List Int) × (List Int)) : Option ((Bool)) := zb5 x.1 x.2.1 x.2.2
theorem zkd : FnOK Tryz.prog zlf zcw :=
 fn_ok zit (h := .no) Tryz.func3 (z0x [] (by kernel_rfl) trivial) (by kernel_rfl) zia (fun x => by kernel_rfl)
end Go.Proofs.YtomgkgngbpnngaaGreatDoor