import Derived.Test.YtomgkgngbpnngaaGreatDoorCzDtoCzI
import Derived.Test.YtomgkgngbpnngaaGreatDoorRows
import Derived.Stop.LaidErr
import Derived.Lib.LaidTab
import Derived.ProofKit
import Derived.Lay
import Derived.LaidMore
import Derived.Test.YtomgkgngbpnngaaGreatDoorCzEtoCzC
set_option maxRecDepth 100000
set_option linter.unusedVariables false
set_option linter.unusedSimpArgs false
namespace Go.Proofs.YtomgkgngbpnngaaGreatDoor
open Go.Tm Go.Ab Go.Lib
def zq8 (l : List (List Int)) : Bool := decide (l.length ≤ 20) && l.all fun s => decide (s.length ≤ 200)
theorem z19l {l : List (List Int)} (h1 : l.length ≤ maxLen) (h2 : ∀ s, s ∈ l → s.length ≤ maxLen) : zgx l = some (zq8 l) := by
 unfold maxLen at h1 h2
 refine ok_is ?_
 unfold zgx zq8
 repeat' first
   | (dsimp only [Int.toNat_natCast, List.length_nil])
   | with_reducible first | refine z2w ?_ | refine z2v ?_ | refine z0t ?_ | refine z2u ?_ | refine z1w ?_ | refine z3v ?_ | refine qs ?_ | refine qb ?_ | refine z4d ?_ | refine qw ?_ | refine z4g ?_ | refine z4f ?_ | refine qi ?_ | refine qg (h := ?_) | refine qx (h := ?_) | refine qy (h := ?_) | refine qa ?_ | refine qc ?_ | refine ql ?_ | refine qp ?_ | refine z2i ?_ | rfl
   | (with_reducible first | refine ok_lt ?_ ?_ | refine ok_le ?_ ?_ | refine z3z ?_ ?_ | refine z4c ?_ ?_ | refine z3y ?_ ?_ | refine qu ?_ ?_ | refine ok_if ?_ ?_) <;> intro _ <;> try (exfalso; omega)
 · rw [decide_eq_false (by omega)]; rfl
 · rw [decide_eq_true (by omega)]
   have hloop : loopC z1s (l, (l.length : Int), 0) = some (if (l.any fun s => !decide (s.length ≤ 200)) = true then .inr false else .inl ()) := by
     refine zxq _ l (fun i => (l, (l.length : Int), (i : Int))) (fun s => !decide (s.length ≤ 200)) _ _ ?_ fun i hi => ?_
     · unfold z1s z8t
       dsimp only
       rw [ltI_f (by omega)]; rfl
     · unfold z1s z8t
       dsimp only
       have := h2 l[i] (List.getElem_mem hi)
       rw [ltI_t (by omega), cond_true, z2k hi, z3h (by omega)]
       simp only [Option.bind_some]
       rw [z0z (by omega)]
       by_cases e : l[i].length ≤ 200
       · rw [ltI_f (by omega), decide_eq_true e]; rfl
       · rw [ltI_t (by omega), decide_eq_false e]; rfl
   have hany : (l.any fun s => !decide (s.length ≤ 200)) = !(l.all fun s => decide (s.length ≤ 200)) := by rw [List.not_all_eq_any_not]
   rw [hloop, hany]
   cases (l.all fun s => decide (s.length ≤ 200)) <;> exact z0t (z0t rfl)
def scanE {A B X : Type} (f : Nat → A → B → A ⊕ X) (fin : A → X) : Nat → List B → A → X
 | _, [], a => fin a
 | i, b :: l, a => match f i a b with
   | .inl a' => scanE f fin (i + 1) l a'
   | .inr x => x
theorem zay {S X A B : Type} (F : S → Option (S ⊕ X)) (l : List B) (st : Nat → A → S) (f : Nat → A → B → A ⊕ X) (fin : A → X) (I : Nat → A → Prop)
   (last : ∀ a, I l.length a → F (st l.length a) = some (.inr (fin a)))
   (step : ∀ i (hi : i < l.length) a, I i a → (∃ a', f i a l[i] = .inl a' ∧ I (i + 1) a' ∧ F (st i a) = some (.inl (st (i + 1) a'))) ∨ (∃ x, f i a l[i] = .inr x ∧ F (st i a) = some (.inr x)))
   {a : A} (h0 : I 0 a) : loopC F (st 0 a) = some (scanE f fin 0 l a) := by
 have key : ∀ k i a, i + k = l.length → I i a → loopC F (st i a) = some (scanE f fin i (l.drop i) a) := by
   intro k
   induction k with
   | zero =>
     intro i a h hI
     rw [show i = l.length by omega] at hI ⊢
     rw [z8c, last a hI, List.drop_length]; rfl
   | succ k ih =>
     intro i a h hI
     have hi : i < l.length := by omega
     rw [z8c, List.drop_eq_getElem_cons hi, scanE]
     rcases step i hi a hI with ⟨a', h1, h2, h3⟩ | ⟨x, h1, h3⟩
     · rw [h3, h1]
       exact ih (i + 1) a' (by omega) h2
     · rw [h3, h1]; rfl
 simpa using key l.length 0 a (by omega) h0
theorem zel {B X : Type} (p : B → Bool) (yes : Nat → B → X) (no : X) : ∀ (l : List B) (i : Nat),
   (l.any p = false ∧ scanE (fun i (_ : Unit) b => if p b = true then .inr (yes i b) else .inl ()) (fun _ => no) i l () = no) ∨
   (l.any p = true ∧ ∃ j b, i ≤ j ∧ scanE (fun i (_ : Unit) b => if p b = true then .inr (yes i b) else .inl ()) (fun _ => no) i l () = yes j b)
 | [], i => .inl ⟨rfl, rfl⟩
 | b :: l, i => by
   rw [scanE, List.any_cons]
   cases hp : p b with
   | true => exact .inr ⟨rfl, i, b, Nat.le_refl _, by rfl⟩
   | false =>
     simp only [Bool.false_eq_true, if_false, Bool.false_or]
     rcases zel p yes no l (i + 1) with h | ⟨h, j, b', hj, e⟩
     · exact .inl h
     · exact .inr ⟨h, j, b', by omega, e⟩
def z0y (l : List (List Int)) (s : List Int) : Bool := l.any fun t => !decide (t = s) && z1h s t
def pathI (s : List Int) : Bool := decide ((z1c s).2 = 0)
theorem zxm (s : List Int) : (z1c s).2 = 0 ∨ (z1c s).2 = 20 := by
 unfold z1c
 repeat' split
 all_goals simp
theorem z15i {l m : List (List Int)} (h : ∀ x, x ∈ l ↔ x ∈ m) (s : List Int) : z0y l s = z0y m s := by
 unfold z0y
 rw [Bool.eq_iff_iff, List.any_eq_true, List.any_eq_true]
 exact ⟨fun ⟨x, hx, e⟩ => ⟨x, (h x).1 hx, e⟩, fun ⟨x, hx, e⟩ => ⟨x, (h x).2 hx, e⟩⟩
def z7z (l : List (List Int)) : List (List Int) × Int :=
 if l.all pathI = true then
   if 8 < ((setL l).filter fun s => !z0y l s).length then ([], 4) else ((setL l).filter fun s => !z0y l s, 0)
 else ([], 20)
theorem z10o (l : List (List Int)) : (sortL l).length = l.length := by simp [sortL]
theorem z1c9 (l : List (List Int)) : (setL l).length ≤ l.length := by
 unfold setL compL
 rw [List.length_map]
 refine Nat.le_trans (Lib.compact_length_le _) ?_
 rw [List.length_map, z10o]; exact Nat.le_refl _
structure Few (l : List (List Int)) : Prop where
 bs : ∀ s, s ∈ l → Bs s
 len : l.length ≤ 100
 short : ∀ s, s ∈ l → s.length ≤ 1000
theorem z1at {m : List (List Int)} (hm : Few m) {x : List Int} (hx : Bs x) (hl : x.length ≤ 1000) (t16 out : List (List Int)) (t17 t18 : Int) :
   (z0y m x = false ∧ loopC z0b (m, x, t16, t17, t18, m, (List.length m : Int), 0, out) = some (.inr (m, x, t16, t17, t18, out))) ∨
   (z0y m x = true ∧ ∃ t, loopC z0b (m, x, t16, t17, t18, m, (List.length m : Int), 0, out) = some (.inl (m, t16, t17, t18, x, t, true, out))) := by
 have hloop : loopC z0b (m, x, t16, t17, t18, m, (List.length m : Int), ((0 : Nat) : Int), out) =
     some (scanE (fun i (_ : Unit) t => if (!decide (t = x) && z1h x t) = true then .inr (.inl (m, t16, t17, t18, x, t, true, out)) else .inl ()) (fun _ => .inr (m, x, t16, t17, t18, out)) 0 m ()) := by
   refine zay _ m (fun i (_ : Unit) => (m, x, t16, t17, t18, m, (List.length m : Int), (i : Int), out)) _ _ (fun _ _ => True) (fun _ _ => ?_) (fun i hi _ _ => ?_) trivial
   · unfold z0b z1x
     dsimp only
     rw [ltI_f (by omega), beq_self]; rfl
   · unfold z0b z1x
     dsimp only
     have hlen := hm.len
     have hmem := List.getElem_mem hi
     rw [ltI_t (by omega), cond_true, z2k hi, z3h (by omega)]
     simp only [Option.bind_some]
     rw [zkw hx (hm.bs _ hmem) hl (hm.short _ hmem)]
     simp only [Option.bind_some]
     by_cases e : m[i] = x
     · left
       exact ⟨(), by rw [decide_eq_true e]; rfl, trivial, by rw [eqS_t e, beq_self]; rfl⟩
     · cases hw : z1h x m[i] with
       | false =>
         left
         exact ⟨(), by rw [decide_eq_false e]; rfl, trivial, by rw [eqS_f e, beq_self]; rfl⟩
       | true =>
         right
         exact ⟨_, by rw [decide_eq_false e]; rfl, by rw [eqS_f e, beq_self]; rfl⟩
 have hz : ((0 : Nat) : Int) = 0 := rfl
 rw [hz] at hloop
 rcases zel (fun t => !decide (t = x) && z1h x t) (fun _ t => (Sum.inl (m, t16, t17, t18, x, t, true, out) : z1v)) (.inr (m, x, t16, t17, t18, out)) m 0 with ⟨h1, h2⟩ | ⟨h1, j, t, _, h2⟩
 · exact .inl ⟨h1, by rw [hloop]; exact congrArg some h2⟩
 · exact .inr ⟨h1, t, by rw [hloop]; exact congrArg some h2⟩
def stepI (m : List (List Int)) (_ : Nat) (out : List (List Int)) (s : List Int) : List (List Int) ⊕ z1g :=
 if pathI s = true then (if z0y m s = true then .inl out else .inl (out ++ [s])) else .inr (.inr ([], 20))
theorem zpv (m : List (List Int)) : ∀ (l : List (List Int)) (i : Nat) (out : List (List Int)),
   scanE (stepI m) (fun out => (Sum.inl out : z1g)) i l out = if l.all pathI = true then .inl (out ++ l.filter fun s => !z0y m s) else .inr ([], 20)
 | [], i, out => by simp [scanE]
 | s :: l, i, out => by
   rw [scanE]
   unfold stepI
   cases hp : pathI s with
   | false => simp [hp]
   | true =>
     cases hu : z0y m s with
     | true =>
       simp only [if_true]
       rw [show scanE (fun (_ : Nat) out s => if pathI s = true then (if z0y m s = true then .inl out else .inl (out ++ [s])) else .inr (.inr ([], 20))) (fun out => (Sum.inl out : z1g)) (i + 1) l out = _ from zpv m l (i + 1) out]
       simp [hp, hu]
     | false =>
       simp only [if_true, Bool.false_eq_true, if_false]
       rw [show scanE (fun (_ : Nat) out s => if pathI s = true then (if z0y m s = true then .inl out else .inl (out ++ [s])) else .inr (.inr ([], 20))) (fun out => (Sum.inl out : z1g)) (i + 1) l (out ++ [s]) = _ from zpv m l (i + 1) (out ++ [s])]
       simp [hp, hu]
theorem z19r {m : List (List Int)} (hm : Few m) :
   loopC z0j (m, m, (List.length m : Int), 0, []) = some (if m.all pathI = true then .inl (m.filter fun s => !z0y m s) else .inr ([], 20)) := by
 have hloop : loopC z0j (m, m, (List.length m : Int), ((0 : Nat) : Int), []) = some (scanE (stepI m) (fun out => (Sum.inl out : z1g)) 0 m []) := by
   refine zay _ m (fun i out => (m, m, (List.length m : Int), (i : Int), out)) _ _ (fun i out => out.length ≤ i) (fun out _ => ?_) (fun i hi out hI => ?_) (Nat.le_refl _)
   · unfold z0j z2m
     dsimp only
     rw [ltI_f (by omega), beq_self]; rfl
   · have hlen := hm.len
     have hmem := List.getElem_mem hi
     have hb := hm.bs _ hmem
     have hs := hm.short _ hmem
     unfold stepI
     cases hp : pathI m[i] with
     | false =>
       right
       refine ⟨.inr ([], 20), rfl, ?_⟩
       unfold z0j z2m
       dsimp only
       rw [ltI_t (by omega), cond_true, z2k hi]
       simp only [Option.bind_some]
       rw [zgh hb hs]
       simp only [Option.bind_some]
       have h0 : ¬ (z1c m[i]).2 = 0 := by simpa [pathI] using hp
       have h20 : (z1c m[i]).2 = 20 := by rcases zxm m[i] with h | h; exact absurd h h0; exact h
       rw [neI_t h0, h20]; rfl
     | true =>
       left
       have h0 : (z1c m[i]).2 = 0 := by simpa [pathI] using hp
       rcases z1at hm hb hs m out (List.length m : Int) (i : Int) with ⟨h1, h2⟩ | ⟨h1, t, h2⟩
       · refine ⟨out ++ [m[i]], by rw [h1]; rfl, by simp; omega, ?_⟩
         unfold z0j z2m
         dsimp only
         rw [ltI_t (by omega), cond_true, z2k hi]
         simp only [Option.bind_some]
         rw [zgh hb hs]
         simp only [Option.bind_some]
         rw [neI_f h0, cond_false, z0z (by omega), beq_self, cond_true, h2]
         simp only [Option.bind_some, Sum.elim_inr]
         rw [beq_self, cond_true, zn2 (by simp; omega), beq_self, cond_true, z3h (by omega)]
       · refine ⟨out, by rw [h1]; rfl, by omega, ?_⟩
         unfold z0j z2m
         dsimp only
         rw [ltI_t (by omega), cond_true, z2k hi]
         simp only [Option.bind_some]
         rw [zgh hb hs]
         simp only [Option.bind_some]
         rw [neI_f h0, cond_false, z0z (by omega), beq_self, cond_true, h2]
         simp only [Option.bind_some, Sum.elim_inl]
         rw [beq_self, cond_true, z3h (by omega)]
 have hz : ((0 : Nat) : Int) = 0 := rfl
 rw [hz] at hloop
 rw [hloop, zpv]
 simp
theorem z13q {l : List (List Int)} (h : Few l) : Few (setL l) where
 bs := fun s hs => h.bs s (((zjq h.bs).2 s).1 hs)
 len := Nat.le_trans (z1c9 l) h.len
 short := fun s hs => h.short s (((zjq h.bs).2 s).1 hs)
theorem z19p {l m : List (List Int)} (h : ∀ x, x ∈ l ↔ x ∈ m) (p : List Int → Bool) : l.all p = m.all p := by
 rw [Bool.eq_iff_iff, List.all_eq_true, List.all_eq_true]
 exact ⟨fun g x hx => g x ((h x).2 hx), fun g x hx => g x ((h x).1 hx)⟩
theorem zzb {l : List (List Int)} (h : Few l) : zcp l = some (z7z l) := by
 have hlen := h.len
 have hs := zjq h.bs
 unfold zcp
 rw [show zfv l = some l from rfl]
 simp only [Option.bind_some]
 have e1 : zie l = some (l, sortL l) := by
   unfold zie
   rw [ble_t (by omega)]; rfl
 have e2 : zh0 (sortL l) = some (setL l) := by
   unfold zh0
   rw [ble_t (by rw [z10o]; omega)]; rfl
 rw [e1]
 simp only [Option.bind_some]
 rw [beq_self, cond_true, e2]
 simp only [Option.bind_some]
 have hf := z13q h
 have hfl := hf.len
 rw [z0z (by omega), show Nat.beq 0 (List.length ([] : List (List Int))) = true from rfl, cond_true, z19r hf]
 have eu : (fun s => !z0y (setL l) s) = fun s => !z0y l s := funext fun s => by rw [z15i hs.2 s]
 rw [eu, z19p hs.2]
 unfold z7z
 simp only [Option.bind_some]
 cases hp : l.all pathI with
 | false => rfl
 | true =>
   simp only [if_true, Sum.elim_inl]
   have hfil : ((setL l).filter fun s => !z0y l s).length ≤ (setL l).length := List.length_filter_le _ _
   rw [z0z (by omega)]
   by_cases h8 : 8 < ((setL l).filter fun s => !z0y l s).length
   · rw [ltI_t (by omega), if_pos h8]; rfl
   · rw [ltI_f (by omega), if_neg h8, cond_false, zt4]
end Go.Proofs.YtomgkgngbpnngaaGreatDoor
set_option maxRecDepth 100000
set_option linter.unusedVariables false
set_option linter.unusedSimpArgs false
namespace Go.Proofs.YtomgkgngbpnngaaGreatDoor
open Go.Tm Go.Ab Go.Lib
def hasI (l : List (List Int)) (at_ : List Int) : Bool := l.isEmpty || l.any fun s => z1h at_ s
def z10d (l : List (List Int)) (at_ : List Int) : Bool := hasI l at_ || l.any fun s => z1h s at_
theorem z16a {l : List (List Int)} (h : Few l) {a : List Int} (ha : Bs a) (hl : a.length ≤ 1000) : z8n l a = some (l.any fun s => z1h a s) := by
 have hlen := h.len
 unfold z8n ze5
 rw [z0z (by omega)]
 have hloop : loopC z1k (l, a, (List.length l : Int), ((0 : Nat) : Int)) =
     some (scanE (fun i (_ : Unit) s => if z1h a s = true then .inr (.inr (i : Int)) else .inl ()) (fun _ => .inl ()) 0 l ()) := by
   refine zay _ l (fun i (_ : Unit) => (l, a, (List.length l : Int), (i : Int))) _ _ (fun _ _ => True) (fun _ _ => ?_) (fun i hi _ _ => ?_) trivial
   · unfold z1k z7j
     dsimp only
     rw [ltI_f (by omega)]; rfl
   · unfold z1k z7j zjs
     dsimp only
     have hmem := List.getElem_mem hi
     rw [ltI_t (by omega), cond_true, z2k hi, z3h (by omega)]
     simp only [Option.bind_some]
     rw [zkw ha (h.bs _ hmem) hl (h.short _ hmem)]
     simp only [Option.bind_some]
     cases hw : z1h a l[i] with
     | false => left; exact ⟨(), rfl, trivial, rfl⟩
     | true => right; exact ⟨_, rfl, rfl⟩
 have hz : ((0 : Nat) : Int) = 0 := rfl
 rw [hz] at hloop
 rcases zel (fun s => z1h a s) (fun i _ => (Sum.inr (i : Int) : z7i)) (.inl ()) l 0 with ⟨h1, h2⟩ | ⟨h1, j, t, _, h2⟩
 · rw [hloop, h1, h2]; rfl
 · rw [hloop, h1, h2]
   show some (leI 0 (j : Int)) = _
   rw [leI_t (by omega)]
theorem z16k {l : List (List Int)} (h : Few l) {a : List Int} (ha : Bs a) (hl : a.length ≤ 1000) : z7h l a = some (l.any fun s => z1h s a) := by
 have hlen := h.len
 unfold z7h zc8
 rw [z0z (by omega)]
 have hloop : loopC z1a (l, a, (List.length l : Int), ((0 : Nat) : Int)) =
     some (scanE (fun i (_ : Unit) s => if z1h s a = true then .inr (.inr (i : Int)) else .inl ()) (fun _ => .inl ()) 0 l ()) := by
   refine zay _ l (fun i (_ : Unit) => (l, a, (List.length l : Int), (i : Int))) _ _ (fun _ _ => True) (fun _ _ => ?_) (fun i hi _ _ => ?_) trivial
   · unfold z1a z6x
     dsimp only
     rw [ltI_f (by omega)]; rfl
   · unfold z1a z6x zgu
     dsimp only
     have hmem := List.getElem_mem hi
     rw [ltI_t (by omega), cond_true, z2k hi, z3h (by omega)]
     simp only [Option.bind_some]
     rw [zkw (h.bs _ hmem) ha (h.short _ hmem) hl]
     simp only [Option.bind_some]
     cases hw : z1h l[i] a with
     | false => left; exact ⟨(), rfl, trivial, rfl⟩
     | true => right; exact ⟨_, rfl, rfl⟩
 have hz : ((0 : Nat) : Int) = 0 := rfl
 rw [hz] at hloop
 rcases zel (fun s => z1h s a) (fun i _ => (Sum.inr (i : Int) : z6v)) (.inl ()) l 0 with ⟨h1, h2⟩ | ⟨h1, j, t, _, h2⟩
 · rw [hloop, h1, h2]; rfl
 · rw [hloop, h1, h2]
   show some (leI 0 (j : Int)) = _
   rw [leI_t (by omega)]
theorem z17a {l : List (List Int)} (h : Few l) {a : List Int} (ha : Bs a) (hl : a.length ≤ 1000) : zey l a = some (hasI l a) := by
 have hlen := h.len
 unfold zey hasI
 rw [z0z (by omega)]
 cases l with
 | nil => rfl
 | cons x l =>
   rw [eqI_f (by simp; omega), cond_false, z16a h ha hl]; rfl
theorem z1a5 {l : List (List Int)} (h : Few l) {a : List Int} (ha : Bs a) (hl : a.length ≤ 1000) : zf8 l a = some (z10d l a) := by
 unfold zf8 z10d
 rw [z17a h ha hl]
 simp only [Option.bind_some]
 cases hasI l a with
 | true => rfl
 | false => rw [cond_false, z16k h ha hl]; rfl
theorem z1by : Few [] := ⟨fun s h => by simp at h, by simp, fun s h => by simp at h⟩
theorem z19h : zbo = some true := by
 have hb : ∀ s, s ∈ ([[47, 98], [47, 97, 47, 99], [47, 97]] : List (List Int)) → Bs s := by
   intro s hs
   simp only [List.mem_cons, List.not_mem_nil, or_false] at hs
   rcases hs with rfl | rfl | rfl <;> (unfold Bs; decide)
 have hf : Few ([[47, 98], [47, 97, 47, 99], [47, 97]] : List (List Int)) := ⟨hb, by simp, fun s hs => by
   simp only [List.mem_cons, List.not_mem_nil, or_false] at hs
   rcases hs with rfl | rfl | rfl <;> simp⟩
 have hset : setL ([[47, 98], [47, 97, 47, 99], [47, 97]] : List (List Int)) = [[47, 97], [47, 97, 47, 99], [47, 98]] := by
   refine zsr (zjq hb).1 (by unfold Inc; decide) fun x => ?_
   rw [(zjq hb).2]
   simp only [List.mem_cons, List.not_mem_nil, or_false]
   exact ⟨fun h => by rcases h with h | h | h <;> simp [h], fun h => by rcases h with h | h | h <;> simp [h]⟩
 have hc : z7z ([[47, 98], [47, 97, 47, 99], [47, 97]] : List (List Int)) = ([[47, 97], [47, 98]], 0) := by
   unfold z7z
   rw [hset]
   decide
 have hf2 : Few ([[47, 97], [47, 98]] : List (List Int)) := ⟨fun s hs => by
   simp only [List.mem_cons, List.not_mem_nil, or_false] at hs
   rcases hs with rfl | rfl <;> (unfold Bs; decide), by simp, fun s hs => by
   simp only [List.mem_cons, List.not_mem_nil, or_false] at hs
   rcases hs with rfl | rfl <;> simp⟩
 unfold zbo
 rw [zzb hf, hc]
 simp only [Option.bind_some]
 have e1 : hasI [[47, 97], [47, 98]] [47, 97, 47, 120] = true := by decide
 have e2 : z10d [] [47] = true := by decide
 rw [z17a hf2 (by unfold Bs; decide) (by simp), e1, z1a5 z1by (by unfold Bs; decide) (by simp), e2]
 rfl
end Go.Proofs.YtomgkgngbpnngaaGreatDoor
set_option maxRecDepth 100000
set_option linter.unusedVariables false
set_option linter.unusedSimpArgs false
namespace Go.Proofs.YtomgkgngbpnngaaGreatDoor
open Go.Tm Go.Ab Go.Lib
theorem zoe {s t : List Int} : z1h s t = true ↔ pathI s = true ∧ pathI t = true ∧ (z1c t).1 <+: (z1c s).1 := by
 unfold z1h pathI
 simp only [Bool.and_eq_true, decide_eq_true_eq, List.isPrefixOf_iff_prefix]
 exact ⟨fun h => ⟨h.1.1, h.1.2, h.2⟩, fun h => ⟨⟨h.1, h.2.1⟩, h.2.2⟩⟩
theorem z1a2 {s t : List Int} (h1 : pathI s = true) (h2 : pathI t = true) (h : (z1c s).1 = (z1c t).1) : s = t := by
 unfold pathI at h1 h2
 rw [decide_eq_true_eq] at h1 h2
 rw [zzl h1, zzl h2, h]
theorem z11p {s : List Int} (h : pathI s = true) : z1h s s = true := zoe.2 ⟨h, h, List.prefix_rfl⟩
theorem z11f {a b c : List Int} (h1 : z1h a b = true) (h2 : z1h b c = true) : z1h a c = true := by
 rw [zoe] at *
 exact ⟨h1.1, h2.2.1, h2.2.2.trans h1.2.2⟩
theorem zq7 {l : List (List Int)} {s : List Int} : z0y l s = true ↔ ∃ t, t ∈ l ∧ t ≠ s ∧ z1h s t = true := by
 unfold z0y
 rw [List.any_eq_true]
 simp only [Bool.and_eq_true, Bool.not_eq_true', decide_eq_false_iff_not]
theorem z17t {l : List (List Int)} : ∀ (n : Nat) {s : List Int}, s ∈ l → pathI s = true → (z1c s).1.length ≤ n → ∃ t, t ∈ l ∧ z1h s t = true ∧ z0y l t = false
 | n, s, hs, hp, hn => by
   cases hu : z0y l s with
   | false => exact ⟨s, hs, z11p hp, hu⟩
   | true =>
     obtain ⟨u, hul, hne, hw⟩ := zq7.1 hu
     have hw' := zoe.1 hw
     have hlen : (z1c u).1.length < (z1c s).1.length := by
       rcases Nat.lt_or_ge (z1c u).1.length (z1c s).1.length with h | h
       · exact h
       · exact absurd (z1a2 hw'.2.1 hp (hw'.2.2.eq_of_length_le h)) hne
     match n, hn with
     | 0, hn => omega
     | n + 1, hn =>
       obtain ⟨t, ht, hwt, hut⟩ := z17t n hul hw'.2.1 (by omega)
       exact ⟨t, ht, z11f hw hwt, hut⟩
theorem top {l : List (List Int)} {s : List Int} (hs : s ∈ l) (hp : pathI s = true) : ∃ t, t ∈ l ∧ z1h s t = true ∧ z0y l t = false := z17t _ hs hp (Nat.le_refl _)
def zae (l : List (List Int)) : List (List Int) := (setL l).filter fun s => !z0y l s
theorem zbp {l : List (List Int)} (hb : ∀ s, s ∈ l → Bs s) {x : List Int} : x ∈ zae l ↔ x ∈ l ∧ z0y l x = false := by
 unfold zae
 rw [List.mem_filter, (zjq hb).2]
 simp
theorem zsd {l : List (List Int)} (hb : ∀ s, s ∈ l → Bs s) : Inc (zae l) := (zjq hb).1.sublist List.filter_sublist
theorem z17o {l : List (List Int)} (h : ¬ (z7z l).2 = 0) : (z7z l).1 = [] := by
 unfold z7z at h ⊢
 repeat' split
 all_goals first | rfl | skip
 rename_i h1 h2
 rw [if_pos h1, if_neg h2] at h
 exact absurd rfl h
theorem zsu {l : List (List Int)} (h : (z7z l).2 = 0) : (z7z l).1 = zae l ∧ l.all pathI = true ∧ (zae l).length ≤ 8 := by
 unfold z7z at h ⊢
 split at h
 · rename_i h1
   split at h
   · cases h
   · rename_i h2
     rw [if_pos h1, if_neg h2]
     exact ⟨rfl, h1, by unfold zae; omega⟩
 · cases h
theorem zsk {l : List (List Int)} (h : Few l) : Few (zae l) where
 bs := fun s hs => h.bs s ((zbp h.bs).1 hs).1
 len := Nat.le_trans (List.length_filter_le _ _) (z13q h).len
 short := fun s hs => h.short s ((zbp h.bs).1 hs).1
theorem zo6 {s : List Int} (hb : Bs s) (hl : s.length ≤ 1000) : zfh s = some (pathI s) := by
 unfold zfh
 rw [zli hb hl]
 rfl
theorem z1de {l : List (List Int)} (hb : ∀ s, s ∈ l → Bs s) (h : zq8 l = true) : Few l := by
 unfold zq8 at h
 simp only [Bool.and_eq_true, decide_eq_true_eq, List.all_eq_true] at h
 exact ⟨hb, by omega, fun s hs => by have := h.2 s hs; omega⟩
end Go.Proofs.YtomgkgngbpnngaaGreatDoor
set_option maxRecDepth 100000
set_option linter.unusedVariables false
namespace Go.Proofs.YtomgkgngbpnngaaGreatDoor
open Go.Ab Go.RowKit
theorem z16v (u : TypeId) (h : Tryz.prog.typeName? 3 u = some "*errors.errorString") : u = 120 :=
 typeName_ptr_named (nm := "errors.errorString") (by kernel_rfl) (by kernel_rfl) (by decide) u h
theorem z13u {W : World} (hL : laidMetH Tryz.prog Rows.chooseCleansRow.laid W) : gb ≤ W.heap.size ∧ Glob W := by
 have hL0 : laidMet Tryz.prog Rows.chooseCleansRow.laid W := by
   rw [MakeChecks.laidMetH_plain _ _ _ (by kernel_rfl)] at hL
   exact hL
 have h1 := hL0.tail
 have h2 := h1.tail
 have h3 := h2.tail
 have h4 := h3.tail
 have h5 := h4.tail
 have ht : Lib.TabIs Tryz.prog W "internal/strconv.uint64pow10" .u64 Lib.pow10Tab :=
   Lib.tabIs_of_head (g := 5) (t := 116) (e := 68) (n := 20) (by kernel_rfl) (by kernel_rfl) (by kernel_rfl) (by kernel_rfl) (by kernel_rfl) (by kernel_rfl) h2
 obtain ⟨a0, s0, hv0, -, -, -⟩ := laid_sentinel h4 (g := 4) (by kernel_rfl) (by kernel_rfl) Tryz.underlying74 z16v Tryz.underlying120 Tryz.underlying122 rfl rfl Tryz.underlying9 (by kernel_rfl) (by kernel_rfl)
 obtain ⟨a1, s1, hv1, -, -, -⟩ := laid_sentinel h5 (g := 3) (by kernel_rfl) (by kernel_rfl) Tryz.underlying74 z16v Tryz.underlying120 Tryz.underlying122 rfl rfl Tryz.underlying9 (by kernel_rfl) (by kernel_rfl)
 refine ⟨?_, ht, ⟨_, _, hv1⟩, ⟨_, _, hv0⟩⟩
 obtain ⟨ps, ⟨g, t, cs, fuel, p, q, hg, _, hv, _, _, _⟩, _⟩ := h1
 have hg7 : g = 7 := (Option.some.inj (hg.symm.trans (show Tryz.prog.globalNamed "math/bits.deBruijn64tab" = some 7 by kernel_rfl)))
 subst hg7
 unfold World.var? at hv
 rw [hg] at hv
 simp only [Option.bind_some] at hv
 have : 7 < W.heap.size := by
   rcases Nat.lt_or_ge 7 W.heap.size with h' | h'
   · exact h'
   · rw [Array.getElem?_eq_none h'] at hv; cases hv
 exact this
end Go.Proofs.YtomgkgngbpnngaaGreatDoor
set_option maxRecDepth 100000
set_option linter.unusedVariables false
noncomputable section
namespace Go.Proofs.YtomgkgngbpnngaaGreatDoor
open Go.Tm Go.Ab
def zvy : Env := ⟨[], [], []⟩
theorem zjd : EnvsOK Tryz.prog zvy := ⟨z1e _, z0r _, z0s _⟩
def zbg : Shp := ⟨26, 0, [], []⟩
def zbh : Shp := ⟨26, 0, [(4, .d .bool)], []⟩
def z4j : XS := .or (.exit 0) zbg.xe (.one .ret zbh.xe)
theorem zhi : z4j.OK := XS.or_ok (z0a zbg) (XS.one_ok (z0a zbh))
def z4p : Shp := ⟨26, 0, [(0, .d (.sl .str)), (1, .d (.sl .str)), (5, .d (.int .i64))], []⟩
abbrev z8a := (List (List Int)) × (List (List Int)) × Int
abbrev zca := (Unit) ⊕ (Bool)
def z8k (a : List (List Int)) (b : List (List Int)) (i : Int) : Option (z8a ⊕ zca) :=
 z0f (List.length b) (
 bif ltI i (List.length b : Nat) then
 (idxI a i).bind fun x =>
 (idxI b i).bind fun x2 =>
 bif !(eqS x x2) then
 some (.inr (.inr false))
 else
 some (.inl (a, b, W64 (i + 1)))
 else
 some (.inr (.inl ())))
def z1o (s : z8a) : Option (z8a ⊕ zca) := z8k s.1 s.2.1 s.2.2
theorem zhz : SoundD Tryz.prog (.loop (subC (bodyC Tryz.f46) [1, 1, 0, 1, 0, 0])) (loopD z4p.xe z4j (loopC z1o)) :=
 z1u (S := z4p.xe) (X := z4j) zjd (h := .no) (z0l [] (by kernel_rfl) trivial) (z0a z4p) zhi z1o (fun s => by kernel_rfl)
def zjp : Shp := ⟨1, 0, [(0, .d .bool)], []⟩
def zmm : XS := .one .ret zjp.xe
theorem zrq : zmm.OK := XS.one_ok (z0a zjp)
def zfu (a : List (List Int)) (b : List (List Int)) : Option ((Bool)) :=
 z0f (List.length a) (
 z0f (List.length b) (
 bif ltI (List.length a : Nat) (List.length b : Nat) then
 some false
 else
 (loopC z1o (a, b, 0)).bind fun o =>
 Sum.elim (fun y =>
 some true) (fun y2 =>
 some y2) o))
def zn0 : Sig := ⟨46, [.d (.sl .str), .d (.sl .str)], [], 0, zmm⟩
def zl0 (x : (List (List Int)) × (List (List Int))) : Option ((Bool)) := zfu x.1 x.2
theorem zva : FnOK Tryz.prog zn0 zl0 :=
 fn_ok zjd (h := (.two .no (.two .no (.two (.two .no (.over (loopD z4p.xe z4j (loopC z1o)))) .no)))) Tryz.func46 (z0l [.den (.loop (subC (bodyC Tryz.f46) [1, 1, 0, 1, 0, 0])) (loopD z4p.xe z4j (loopC z1o))] (by kernel_rfl) ⟨zhz, trivial⟩) (by kernel_rfl) zrq (fun x => by kernel_rfl)
def zwm : Env := ⟨[(entQ zho zgj), (entQ zn0 zl0)], [], []⟩
theorem zt2 : EnvsOK Tryz.prog zwm := ⟨z0i (z0m zlu) (z0i (z0m zva) (z1e _)), z0r _, z0s _⟩
def zk6 : Shp := ⟨1, 0, [(0, .d .bool)], []⟩
def zne : XS := .one .ret zk6.xe
theorem zrs : zne.OK := XS.one_ok (z0a zk6)
def zfo (t0 : List Int) (top : List Int) : Option ((Bool)) :=
 (zbq t0).bind fun r =>
 (zbq top).bind fun r2 =>
 bif eqI r.2 0 then
 bif eqI r2.2 0 then
 (zfu r.1 r2.1).bind fun r3 =>
 some r3
 else
 some false
 else
 some false
def zlv : Sig := ⟨37, [.d .str, .d .str], [], 0, zne⟩
def zl8 (x : (List Int) × (List Int)) : Option ((Bool)) := zfo x.1 x.2
theorem zvd : FnOK Tryz.prog zlv zl8 :=
 fn_ok zt2 (h := .no) Tryz.func37 (z0l [] (by kernel_rfl) trivial) (by kernel_rfl) zrs (fun x => by kernel_rfl)
def zxz : Env := ⟨[(entQ zlv zl8)], [], []⟩
theorem zkm : EnvsOK Tryz.prog zxz := ⟨z0i (z0m zvd) (z1e _), z0r _, z0s _⟩
def zd9 : Shp := ⟨26, 0, [], []⟩
def zd6 : Shp := ⟨26, 0, [(4, .d .bool)], []⟩
def z5w : XS := .or (.exit 0) zd9.xe (.one .ret zd6.xe)
theorem zk5 : z5w.OK := XS.or_ok (z0a zd9) (XS.one_ok (z0a zd6))
def z5v : Shp := ⟨26, 0, [(0, .d (.sl .str)), (1, .d .str), (5, .d (.int .i64))], []⟩
abbrev zab := (List (List Int)) × (List Int) × Int
abbrev zaa := (Unit) ⊕ (Bool)
def zaq (l : List (List Int)) (t1 : List Int) (i : Int) : Option (zab ⊕ zaa) :=
 z0f (List.length l) (
 bif ltI i (List.length l : Nat) then
 (idxI l i).bind fun x =>
 bif !(eqS x t1) then
 (idxI l i).bind fun x2 =>
 (zfo t1 x2).bind fun r =>
 bif r then
 some (.inr (.inr true))
 else
 some (.inl (l, t1, W64 (i + 1)))
 else
 some (.inl (l, t1, W64 (i + 1)))
 else
 some (.inr (.inl ())))
def z2b (s : zab) : Option (zab ⊕ zaa) := zaq s.1 s.2.1 s.2.2
theorem zkd : SoundD Tryz.prog (.loop (subC (bodyC Tryz.f27) [1, 0, 1, 0, 0])) (loopD z5v.xe z5w (loopC z2b)) :=
 z1u (S := z5v.xe) (X := z5w) zkm (h := .no) (z0l [] (by kernel_rfl) trivial) (z0a z5v) zk5 z2b (fun s => by kernel_rfl)
def zlc : Shp := ⟨1, 0, [(0, .d .bool)], []⟩
def zop : XS := .one .ret zlc.xe
theorem zsv : zop.OK := XS.one_ok (z0a zlc)
def zbr (l : List (List Int)) (t1 : List Int) : Option ((Bool)) :=
 (loopC z2b (l, t1, 0)).bind fun o =>
 Sum.elim (fun y =>
 some false) (fun y2 =>
 some y2) o
def zhr : Sig := ⟨27, [.d (.sl .str), .d .str], [], 0, zop⟩
def zgp (x : (List (List Int)) × (List Int)) : Option ((Bool)) := zbr x.1 x.2
theorem zmt : FnOK Tryz.prog zhr zgp :=
 fn_ok zkm (h := (.two .no (.two (.two .no (.over (loopD z5v.xe z5w (loopC z2b)))) .no))) Tryz.func27 (z0l [.den (.loop (subC (bodyC Tryz.f27) [1, 0, 1, 0, 0])) (loopD z5v.xe z5w (loopC z2b))] (by kernel_rfl) ⟨zkd, trivial⟩) (by kernel_rfl) zsv (fun x => by kernel_rfl)
def zxw : Env := ⟨[(entQ zk2 zhy), (entQ zhr zgp)], [], []⟩
theorem zfd : EnvsOK Tryz.prog zxw := ⟨z0i (z0m zor) (z0i (z0m zmt) (z1e _)), z0r _, z0s _⟩
def z5y : Shp := ⟨81, 0, [(0, .d (.sl .str)), (4, .d (.sl .str)), (5, .d (.int .i64)), (6, .d (.int .i64))], []⟩
def z1j : XS := .one (.exit 2) z5y.xe
theorem zam : z1j.OK := XS.one_ok (z0a z5y)
def z1i : Shp := ⟨81, 0, [(0, .d (.sl .str)), (4, .d (.sl .str)), (5, .d (.int .i64)), (6, .d (.int .i64))], []⟩
abbrev z3o := (List (List Int)) × (List (List Int)) × Int × Int
abbrev z6j := ((List (List Int)) × (List (List Int)) × Int × Int)
def z3l (l : List (List Int)) (out : List (List Int)) (i : Int) (k : Int) : Option (z3o ⊕ z6j) :=
 bif ltI 0 k then
 (idxI l i).bind fun x =>
 (idxI out (W64 (k - 1))).bind fun x2 =>
 bif ltS x x2 || eqS x x2 then
 some (.inl (l, out, i, W64 (k - 1)))
 else
 some (.inr (l, out, i, k))
 else
 some (.inr (l, out, i, k))
def z0g (s : z3o) : Option (z3o ⊕ z6j) := z3l s.1 s.2.1 s.2.2.1 s.2.2.2
theorem zat : SoundD Tryz.prog (.loop (subC (bodyC Tryz.f14) [1, 1, 0, 1, 0, 0, 1, 0, 0, 1, 1, 0, 0, 0])) (loopD z1i.xe z1j (loopC z0g)) :=
 z1u (S := z1i.xe) (X := z1j) zfd (h := .no) (z0l [] (by kernel_rfl) trivial) (z0a z1i) zam z0g (fun s => by kernel_rfl)
def z6q : Shp := ⟨81, 0, [(0, .d (.sl .str)), (4, .d (.sl .str)), (5, .d (.int .i64)), (6, .d (.int .i64)), (45, .d (.int .i64)), (46, .d (.sl .str)), (47, .d (.int .i64)), (48, .d .bool), (49, .d .bool), (59, .d .bool)], []⟩
def z6r : Shp := ⟨81, 0, [(0, .d (.sl .str)), (4, .d (.sl .str)), (5, .d (.int .i64))], []⟩
def z4q : XS := .or .normal z6q.xe (.one (.exit 1) z6r.xe)
theorem zbk : z4q.OK := XS.or_ok (z0a z6q) (XS.one_ok (z0a z6r))
def zbx : Shp := ⟨81, 0, [(4, .d (.sl .str))], []⟩
def zc0 : Shp := ⟨81, 0, [(2, .d (.sl .str)), (3, .d (.int .i64))], []⟩
def z5d : XS := .or (.exit 0) zbx.xe (.one .ret zc0.xe)
theorem zhu : z5d.OK := XS.or_ok (z0a zbx) (XS.one_ok (z0a zc0))
def z4x : Shp := ⟨81, 0, [(0, .d (.sl .str)), (4, .d (.sl .str)), (5, .d (.int .i64))], []⟩
abbrev z6n := (List (List Int)) × (List (List Int)) × Int
abbrev z8s := ((List (List Int))) ⊕ ((List (List Int)) × Int)
def z4w (l : List (List Int)) (out : List (List Int)) (i : Int) : Option (z6n ⊕ z8s) :=
 z0f (List.length l) (
 bif ltI i (List.length l : Nat) then
 (idxI l i).bind fun x =>
 (zfh x).bind fun r =>
 bif !r then
 some (.inr (.inr ([], 20)))
 else
 z0f (List.length out) (
 (loopC z0g (l, out, i, (List.length out : Nat))).bind fun o =>
 (show Option (((List (List Int)) × (List (List Int)) × Int × Int × Int × (List (List Int)) × Int × Bool × Bool × Bool) ⊕ ((List (List Int)) × (List (List Int)) × Int)) from
 (idxI o.1 o.2.2.1).bind fun x2 =>
 (zbr o.1 x2).bind fun r2 =>
 bif r2 then
 some (.inr (o.1, o.2.1, o.2.2.1))
 else
 z0f (List.length o.2.1) (
 bif ltI o.2.2.2 (List.length o.2.1 : Nat) then
 (idxI o.2.1 o.2.2.2).bind fun x3 =>
 (idxI o.1 o.2.2.1).bind fun x4 =>
 bif eqS x3 x4 then
 some (.inr (o.1, o.2.1, o.2.2.1))
 else
 some (.inl (o.1, o.2.1, o.2.2.1, o.2.2.2, o.2.2.2, o.2.1, (List.length o.2.1 : Nat), ltI o.2.2.2 (List.length o.2.1 : Nat), true, eqS x3 x4))
 else
 some (.inl (o.1, o.2.1, o.2.2.1, o.2.2.2, o.2.2.2, o.2.1, (List.length o.2.1 : Nat), ltI o.2.2.2 (List.length o.2.1 : Nat), false, false)))).bind fun j =>
 Sum.elim (fun y =>
 (idxI y.1 y.2.2.1).bind fun x5 =>
 bif subOk y.2.2.2.1 (List.length y.2.1 : Nat) (List.length y.2.1) then
 appG (List.length ([x5] : List (List Int))) (List.length (subL y.2.1 y.2.2.2.1 (List.length y.2.1 : Nat))) 16 fun _ =>
 bif subOk 0 y.2.2.2.1 (List.length y.2.1) then
 appG (List.length ([] : List (List Int))) (List.length (subL y.2.1 0 y.2.2.2.1)) 16 fun _ =>
 bif Nat.beq (List.length (subL y.2.1 0 y.2.2.2.1)) (List.length (subL y.2.1 0 y.2.2.2.1)) then
 appG (List.length (subL y.2.1 0 y.2.2.2.1)) (List.length (([x5] : List (List Int)) ++ (subL y.2.1 y.2.2.2.1 (List.length y.2.1 : Nat)))) 16 fun _ =>
 winK ((subL y.2.1 0 y.2.2.2.1) ++ (([x5] : List (List Int)) ++ (subL y.2.1 y.2.2.2.1 (List.length y.2.1 : Nat)))) 0 (List.length ((subL y.2.1 0 y.2.2.2.1) ++ (([x5] : List (List Int)) ++ (subL y.2.1 y.2.2.2.1 (List.length y.2.1 : Nat))))) fun w =>
 some (.inl (y.1, w, W64 (y.2.2.1 + 1)))
 else none
 else none
 else none) (fun y2 =>
 some (.inl (y2.1, y2.2.1, W64 (y2.2.2 + 1)))) j)
 else
 some (.inr (.inl out)))
def z1m (s : z6n) : Option (z6n ⊕ z8s) := z4w s.1 s.2.1 s.2.2
theorem zik : SoundD Tryz.prog (.loop (subC (bodyC Tryz.f14) [1, 1, 0, 1, 0, 0])) (loopD z4x.xe z5d (loopC z1m)) :=
 z1u (S := z4x.xe) (X := z5d) zfd (h := (.two .no (.two (.two .no (.two .no (.two (.over (loopD z1i.xe z1j (loopC z0g))) (.join (fun _ => z4q) .no (.two .no (.reg [4] [])))))) .no))) (z0l [.den (.loop (subC (bodyC Tryz.f14) [1, 1, 0, 1, 0, 0, 1, 0, 0, 1, 1, 0, 0, 0])) (loopD z1i.xe z1j (loopC z0g)), .xs (fun _ => z4q)] (by kernel_rfl) ⟨zat, (znf zbk), trivial⟩) (z0a z4x) zhu z1m (fun s => by kernel_rfl)
def zl1 : Shp := ⟨1, 0, [(0, .tu [.d (.sl .str), .d (.int .i64)])], []⟩
def zp3 : XS := .one .ret zl1.xe
theorem zti : zp3.OK := XS.one_ok (z0a zl1)
def zgw (l : List (List Int)) : Option (((List (List Int)) × Int)) :=
 (loopC z1m (l, [], 0)).bind fun o =>
 Sum.elim (fun y =>
 z0f (List.length y) (
 bif ltI 8 (List.length y : Nat) then
 some ([], 4)
 else
 some (y, 0))) (fun y2 =>
 some (y2.1, y2.2)) o
def zoj : Sig := ⟨14, [.d (.sl .str)], [], 0, zp3⟩
def zml (x : (List (List Int))) : Option (((List (List Int)) × Int)) := zgw x
theorem zw8 : FnOK Tryz.prog zoj zml :=
 fn_ok zfd (h := (.two .no (.two .no (.two (.two .no (.over (loopD z4x.xe z5d (loopC z1m)))) .no)))) Tryz.func14 (z0l [.den (.loop (subC (bodyC Tryz.f14) [1, 1, 0, 1, 0, 0])) (loopD z4x.xe z5d (loopC z1m))] (by kernel_rfl) ⟨zik, trivial⟩) (by kernel_rfl) zti (fun x => by kernel_rfl)
def zzj : Env := ⟨[], [], []⟩
theorem zmz : EnvsOK Tryz.prog zzj := ⟨z1e _, z0r _, z0s _⟩
def zch : Shp := ⟨26, 0, [], []⟩
def zco : Shp := ⟨26, 0, [(4, .d .bool)], []⟩
def z5k : XS := .or (.exit 0) zch.xe (.one .ret zco.xe)
theorem zit : z5k.OK := XS.or_ok (z0a zch) (XS.one_ok (z0a zco))
def z5o : Shp := ⟨26, 0, [(0, .d (.sl .str)), (1, .d (.sl .str)), (12, .d (.int .i64)), (13, .d (.int .i64))], []⟩
abbrev z9z := (List (List Int)) × (List (List Int)) × Int × Int
abbrev zds := (Unit) ⊕ (Bool)
def z9y (a : List (List Int)) (b : List (List Int)) (t12 : Int) (t13 : Int) : Option (z9z ⊕ zds) :=
 bif ltI t13 t12 then
 (idxI a t13).bind fun x =>
 (idxI b t13).bind fun x2 =>
 bif !(eqS x x2) then
 some (.inr (.inr false))
 else
 some (.inl (a, b, t12, W64 (t13 + 1)))
 else
 some (.inr (.inl ()))
def z2a (s : z9z) : Option (z9z ⊕ zds) := z9y s.1 s.2.1 s.2.2.1 s.2.2.2
theorem zk8 : SoundD Tryz.prog (.loop (subC (bodyC Tryz.f15) [1, 1, 0, 1, 0, 0])) (loopD z5o.xe z5k (loopC z2a)) :=
 z1u (S := z5o.xe) (X := z5k) zmz (h := .no) (z0l [] (by kernel_rfl) trivial) (z0a z5o) zit z2a (fun s => by kernel_rfl)
def zm2 : Shp := ⟨1, 0, [(0, .d .bool)], []⟩
def zpf : XS := .one .ret zm2.xe
theorem zu3 : zpf.OK := XS.one_ok (z0a zm2)
def zf7 (a : List (List Int)) (b : List (List Int)) : Option ((Bool)) :=
 z0f (List.length a) (
 z0f (List.length b) (
 bif neI (List.length a : Nat) (List.length b : Nat) then
 some false
 else
 z0f (List.length a) (
 (loopC z2a (a, b, (List.length a : Nat), 0)).bind fun o =>
 Sum.elim (fun y =>
 some true) (fun y2 =>
 some y2) o)))
def zqy : Sig := ⟨15, [.d (.sl .str), .d (.sl .str)], [], 0, zpf⟩
def zp1 (x : (List (List Int)) × (List (List Int))) : Option ((Bool)) := zf7 x.1 x.2
theorem zy2 : FnOK Tryz.prog zqy zp1 :=
 fn_ok zmz (h := (.two .no (.two .no (.two (.two .no (.over (loopD z5o.xe z5k (loopC z2a)))) .no)))) Tryz.func15 (z0l [.den (.loop (subC (bodyC Tryz.f15) [1, 1, 0, 1, 0, 0])) (loopD z5o.xe z5k (loopC z2a))] (by kernel_rfl) ⟨zk8, trivial⟩) (by kernel_rfl) zu3 (fun x => by kernel_rfl)
def zwb : Env := ⟨[(entQ zfi zdy), (entQ zbb zal)], [], []⟩
theorem zed : EnvsOK Tryz.prog zwb := ⟨z0i (z0m zht) (z0i (z0m zd2) (z1e _)), z0r _, z0s _⟩
def z6i : Shp := ⟨54, 0, [(0, .d (.sl .str)), (4, .d .str), (12, .d (.sl .str)), (13, .d (.int .i64)), (14, .d (.int .i64))], []⟩
def z6k : Shp := ⟨54, 0, [(2, .d (.int .i64))], []⟩
def z4h : XS := .or .normal z6i.xe (.one .ret z6k.xe)
theorem zb2 : z4h.OK := XS.or_ok (z0a z6i) (XS.one_ok (z0a z6k))
def z5b : Shp := ⟨54, 0, [(0, .d (.sl .str)), (12, .d (.sl .str)), (13, .d (.int .i64)), (14, .d (.int .i64))], []⟩
def z4z : Shp := ⟨54, 0, [(2, .d (.int .i64))], []⟩
def z0v : XS := .or (.exit 2) z5b.xe (.one .ret z4z.xe)
theorem z8o : z0v.OK := XS.or_ok (z0a z5b) (XS.one_ok (z0a z4z))
def z0w : Shp := ⟨54, 0, [(0, .d (.sl .str)), (4, .d .str), (12, .d (.sl .str)), (13, .d (.int .i64)), (14, .d (.int .i64)), (38, .d (.sl .str)), (39, .d (.int .i64)), (40, .d (.int .i64))], []⟩
abbrev z2s := (List (List Int)) × (List Int) × (List (List Int)) × Int × Int × (List (List Int)) × Int × Int
abbrev z2q := ((List (List Int)) × (List (List Int)) × Int × Int) ⊕ (Int)
def z2o (l : List (List Int)) (t4 : List Int) (t12 : List (List Int)) (t13 : Int) (t14 : Int) (t38 : List (List Int)) (t39 : Int) (t40 : Int) : Option (z2s ⊕ z2q) :=
 bif ltI t40 t39 then
 (idxI t38 t40).bind fun x =>
 bif !(eqS x t4) then
 (za2 t4 x).bind fun r =>
 bif r then
 some (.inr (.inr 7))
 else
 some (.inl (l, t4, t12, t13, t14, t38, t39, W64 (t40 + 1)))
 else
 some (.inl (l, t4, t12, t13, t14, t38, t39, W64 (t40 + 1)))
 else
 some (.inr (.inl (l, t12, t13, t14)))
def z0c (s : z2s) : Option (z2s ⊕ z2q) := z2o s.1 s.2.1 s.2.2.1 s.2.2.2.1 s.2.2.2.2.1 s.2.2.2.2.2.1 s.2.2.2.2.2.2.1 s.2.2.2.2.2.2.2
theorem z8u : SoundD Tryz.prog (.loop (subC (bodyC Tryz.f16) [1, 1, 0, 1, 0, 0, 1, 1, 0, 0, 1, 1, 1, 1, 0, 0])) (loopD z0w.xe z0v (loopC z0c)) :=
 z1u (S := z0w.xe) (X := z0v) zed (h := .no) (z0l [] (by kernel_rfl) trivial) (z0a z0w) z8o z0c (fun s => by kernel_rfl)
def zbf : Shp := ⟨54, 0, [], []⟩
def zbj : Shp := ⟨54, 0, [(2, .d (.int .i64))], []⟩
def z4n : XS := .or (.exit 0) zbf.xe (.one .ret zbj.xe)
theorem zh5 : z4n.OK := XS.or_ok (z0a zbf) (XS.one_ok (z0a zbj))
def z4k : Shp := ⟨54, 0, [(0, .d (.sl .str)), (12, .d (.sl .str)), (13, .d (.int .i64)), (14, .d (.int .i64))], []⟩
abbrev z4i := (List (List Int)) × (List (List Int)) × Int × Int
abbrev z6g := (Unit) ⊕ (Int)
def z8b (l : List (List Int)) (t12 : List (List Int)) (t13 : Int) (t14 : Int) : Option (z4i ⊕ z6g) :=
 bif ltI t14 t13 then
 (idxI t12 t14).bind fun x =>
 (zb5 x).bind fun r =>
 bif neI r.2 0 then
 some (.inr (.inr r.2))
 else
 (show Option (((List (List Int)) × (List Int) × (List (List Int)) × Int × Int) ⊕ (Int)) from
 bif ltI 0 t14 then
 (idxI l (W64 (t14 - 1))).bind fun x2 =>
 bif !(ltS x2 x) then
 some (.inr 7)
 else
 some (.inl (l, x, t12, t13, t14))
 else
 some (.inl (l, x, t12, t13, t14))).bind fun j =>
 Sum.elim (fun y =>
 z0f (List.length y.1) (
 (loopC z0c (y.1, y.2.1, y.2.2.1, y.2.2.2.1, y.2.2.2.2, y.1, (List.length y.1 : Nat), 0)).bind fun o =>
 Sum.elim (fun y3 =>
 some (.inl (y3.1, y3.2.1, y3.2.2.1, W64 (y3.2.2.2 + 1)))) (fun y4 =>
 some (.inr (.inr y4))) o)) (fun y2 =>
 some (.inr (.inr y2))) j
 else
 some (.inr (.inl ()))
def z1p (s : z4i) : Option (z4i ⊕ z6g) := z8b s.1 s.2.1 s.2.2.1 s.2.2.2
theorem zhm : SoundD Tryz.prog (.loop (subC (bodyC Tryz.f16) [1, 1, 0, 1, 0, 0])) (loopD z4k.xe z4n (loopC z1p)) :=
 z1u (S := z4k.xe) (X := z4n) zed (h := (.two .no (.two .no (.two (.two .no (.two .no (.join (fun _ => z4h) .no (.two .no (.over (loopD z0w.xe z0v (loopC z0c))))))) .no)))) (z0l [.xs (fun _ => z4h), .den (.loop (subC (bodyC Tryz.f16) [1, 1, 0, 1, 0, 0, 1, 1, 0, 0, 1, 1, 1, 1, 0, 0])) (loopD z0w.xe z0v (loopC z0c))] (by kernel_rfl) ⟨(znf zb2), z8u, trivial⟩) (z0a z4k) zh5 z1p (fun s => by kernel_rfl)
def zjz : Shp := ⟨1, 0, [(0, .d (.int .i64))], []⟩
def zn3 : XS := .one .ret zjz.xe
theorem zrp : zn3.OK := XS.one_ok (z0a zjz)
def zcv (l : List (List Int)) : Option ((Int)) :=
 z0f (List.length l) (
 bif ltI 8 (List.length l : Nat) then
 some 4
 else
 z0f (List.length l) (
 (loopC z1p (l, l, (List.length l : Nat), 0)).bind fun o =>
 Sum.elim (fun y =>
 some 0) (fun y2 =>
 some y2) o))
def zn6 : Sig := ⟨16, [.d (.sl .str)], [], 0, zn3⟩
def zks (x : (List (List Int))) : Option ((Int)) := zcv x
theorem zut : FnOK Tryz.prog zn6 zks :=
 fn_ok zed (h := (.two .no (.two .no (.two (.two .no (.over (loopD z4k.xe z4n (loopC z1p)))) .no)))) Tryz.func16 (z0l [.den (.loop (subC (bodyC Tryz.f16) [1, 1, 0, 1, 0, 0])) (loopD z4k.xe z4n (loopC z1p))] (by kernel_rfl) ⟨zhm, trivial⟩) (by kernel_rfl) zrp (fun x => by kernel_rfl)
def zy1 : Env := ⟨[(entQ zk2 zhy), (entQ zhr zgp)], [], []⟩
theorem zkn : EnvsOK Tryz.prog zy1 := ⟨z0i (z0m zor) (z0i (z0m zmt) (z1e _)), z0r _, z0s _⟩
def zbv : Shp := ⟨41, 0, [], []⟩
def zbu : Shp := ⟨41, 0, [(2, .d (.int .i64))], []⟩
def z5e : XS := .or (.exit 0) zbv.xe (.one .ret zbu.xe)
theorem zhq : z5e.OK := XS.or_ok (z0a zbv) (XS.one_ok (z0a zbu))
def z4y : Shp := ⟨41, 0, [(0, .d (.sl .str)), (3, .d (.int .i64))], []⟩
abbrev z8r := (List (List Int)) × Int
abbrev zd7 := (Unit) ⊕ (Int)
def z8v (l : List (List Int)) (i : Int) : Option (z8r ⊕ zd7) :=
 z0f (List.length l) (
 bif ltI i (List.length l : Nat) then
 (idxI l i).bind fun x =>
 (zfh x).bind fun r =>
 bif !r then
 some (.inr (.inr 20))
 else
 bif ltI 0 i then
 (idxI l i).bind fun x2 =>
 (idxI l (W64 (i - 1))).bind fun x3 =>
 bif ltS x2 x3 || eqS x2 x3 then
 some (.inr (.inr 7))
 else
 (idxI l i).bind fun x4 =>
 (zbr l x4).bind fun r2 =>
 bif r2 then
 some (.inr (.inr 7))
 else
 some (.inl (l, W64 (i + 1)))
 else
 (idxI l i).bind fun x5 =>
 (zbr l x5).bind fun r3 =>
 bif r3 then
 some (.inr (.inr 7))
 else
 some (.inl (l, W64 (i + 1)))
 else
 some (.inr (.inl ())))
def z1r (s : z8r) : Option (z8r ⊕ zd7) := z8v s.1 s.2
theorem ziv : SoundD Tryz.prog (.loop (subC (bodyC Tryz.f17) [1, 1, 0, 1, 0, 0])) (loopD z4y.xe z5e (loopC z1r)) :=
 z1u (S := z4y.xe) (X := z5e) zkn (h := .no) (z0l [] (by kernel_rfl) trivial) (z0a z4y) zhq z1r (fun s => by kernel_rfl)
def zkk : Shp := ⟨1, 0, [(0, .d (.int .i64))], []⟩
def zov : XS := .one .ret zkk.xe
theorem ztl : zov.OK := XS.one_ok (z0a zkk)
def zgz (l : List (List Int)) : Option ((Int)) :=
 z0f (List.length l) (
 bif ltI 8 (List.length l : Nat) then
 some 4
 else
 (loopC z1r (l, 0)).bind fun o =>
 Sum.elim (fun y =>
 some 0) (fun y2 =>
 some y2) o)
def zp0 : Sig := ⟨17, [.d (.sl .str)], [], 0, zov⟩
def zlt (x : (List (List Int))) : Option ((Int)) := zgz x
theorem zvr : FnOK Tryz.prog zp0 zlt :=
 fn_ok zkn (h := (.two .no (.two .no (.two (.two .no (.over (loopD z4y.xe z5e (loopC z1r)))) .no)))) Tryz.func17 (z0l [.den (.loop (subC (bodyC Tryz.f17) [1, 1, 0, 1, 0, 0])) (loopD z4y.xe z5e (loopC z1r))] (by kernel_rfl) ⟨ziv, trivial⟩) (by kernel_rfl) ztl (fun x => by kernel_rfl)
def zny : Env := ⟨[(entQ zou zlz), (entQ zom zm5), (entQ zgd zf1), (entQ zoj zml), (entQ zqy zp1), (entQ zn6 zks), (entQ zp0 zlt)], [], []⟩
theorem zlh : EnvsOK Tryz.prog zny := ⟨z0i (z0m zwd) (z0i (z0m zvw) (z0i (z0m zlb) (z0i (z0m zw8) (z0i (z0m zy2) (z0i (z0m zut) (z0i (z0m zvr) (z1e _))))))), z0r _, z0s _⟩
def zdh : Shp := ⟨1, 0, [(0, .d .bool)], []⟩
def zff : XS := .one .ret zdh.xe
theorem zkf : zff.OK := XS.one_ok (z0a zdh)
def zck (l : List (List Int)) : Option ((Bool)) :=
 (zbo).bind fun r =>
 bif !r then
 (zbo).bind fun r2 =>
 some r2
 else
 (zgx l).bind fun r3 =>
 bif !r3 then
 (zbo).bind fun r4 =>
 some r4
 else
 appG (List.length ([] : List (List Int))) (List.length l) 16 fun _ =>
 (zcp (([] : List (List Int)) ++ l)).bind fun r5 =>
 (zgw l).bind fun r6 =>
 (zf7 r5.1 r6.1).bind fun r7 =>
 bif !r7 then
 some false
 else
 bif neI r5.2 r6.2 then
 some false
 else
 (zf7 (([] : List (List Int)) ++ l) l).bind fun r8 =>
 bif !r8 then
 some false
 else
 (zcv l).bind fun r9 =>
 (zgz l).bind fun r10 =>
 bif neI r9 r10 then
 some false
 else
 bif neI r5.2 0 then
 some true
 else
 (zcv r5.1).bind fun r11 =>
 some (eqI r11 0)
def zo8 : Sig := ⟨5, [.d (.sl .str)], [], 0, zff⟩
def zet (x : (List (List Int))) : Option ((Bool)) := zck x
theorem zlx : FnOK Tryz.prog zo8 zet :=
 fn_ok zlh (h := .no) Tryz.func5 (z0l [] (by kernel_rfl) trivial) (by kernel_rfl) zkf (fun x => by kernel_rfl)
end Go.Proofs.YtomgkgngbpnngaaGreatDoor