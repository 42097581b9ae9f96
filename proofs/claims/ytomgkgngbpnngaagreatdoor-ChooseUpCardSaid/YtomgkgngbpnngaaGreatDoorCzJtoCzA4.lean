import Derived.Test.YtomgkgngbpnngaaGreatDoorCzDtoCzI
import Derived.Test.YtomgkgngbpnngaaGreatDoorRows
import Derived.Stop.LaidErr
import Derived.Lib.LaidTab
import Derived.ProofKit
import Derived.Lay
import Derived.LaidMore
import Derived.Test.YtomgkgngbpnngaaGreatDoorCzEtoCzC
set_option maxRecDepth 100000
set_option linter.unusedVariables false
set_option linter.unusedSimpArgs false
namespace Go.Proofs.YtomgkgngbpnngaaGreatDoor
open Go.Tm Go.Ab Go.Lib
def zex (l : List (List Int)) : Bool := decide (l.length ≤ 20) && l.all fun s => decide (s.length ≤ 200)
theorem zuo {l : List (List Int)} (h1 : l.length ≤ maxLen) (h2 : ∀ s, s ∈ l → s.length ≤ maxLen) : za6 l = some (zex l) := by
 unfold maxLen at h1 h2
 refine ok_is ?_
 unfold za6 zex
 repeat' first
   | (dsimp only [Int.toNat_natCast, List.length_nil])
   | with_reducible first | refine z2j ?_ | refine z2l ?_ | refine z1b ?_ | refine z2p ?_ | refine z1n ?_ | refine z3i ?_ | refine qs ?_ | refine qb ?_ | refine z3o ?_ | refine qw ?_ | refine z3p ?_ | refine z3l ?_ | refine qi ?_ | refine qg (h := ?_) | refine qx (h := ?_) | refine qy (h := ?_) | refine qa ?_ | refine qc ?_ | refine ql ?_ | refine qp ?_ | refine z1t ?_ | rfl
   | (with_reducible first | refine ok_lt ?_ ?_ | refine ok_le ?_ ?_ | refine z3k ?_ ?_ | refine z3n ?_ ?_ | refine z3q ?_ ?_ | refine qu ?_ ?_ | refine ok_if ?_ ?_) <;> intro _ <;> try (exfalso; omega)
 · rw [decide_eq_false (by omega)]; rfl
 · rw [decide_eq_true (by omega)]
   have hloop : loopC z1g (l, (l.length : Int), 0) = some (if (l.any fun s => !decide (s.length ≤ 200)) = true then .inr false else .inl ()) := by
     refine zst _ l (fun i => (l, (l.length : Int), (i : Int))) (fun s => !decide (s.length ≤ 200)) _ _ ?_ fun i hi => ?_
     · unfold z1g z7g
       dsimp only
       rw [ltI_f (by omega)]; rfl
     · unfold z1g z7g
       dsimp only
       have := h2 l[i] (List.getElem_mem hi)
       rw [ltI_t (by omega), cond_true, za3 hi, z5o (by omega)]
       simp only [Option.bind_some]
       rw [z3m (by omega)]
       by_cases e : l[i].length ≤ 200
       · rw [ltI_f (by omega), decide_eq_true e]; rfl
       · rw [ltI_t (by omega), decide_eq_false e]; rfl
   have hany : (l.any fun s => !decide (s.length ≤ 200)) = !(l.all fun s => decide (s.length ≤ 200)) := by rw [List.not_all_eq_any_not]
   rw [hloop, hany]
   cases (l.all fun s => decide (s.length ≤ 200)) <;> exact z1b (z1b rfl)
def scanE {A B X : Type} (f : Nat → A → B → A ⊕ X) (fin : A → X) : Nat → List B → A → X
 | _, [], a => fin a
 | i, b :: l, a => match f i a b with
   | .inl a' => scanE f fin (i + 1) l a'
   | .inr x => x
theorem zfg {S X A B : Type} (F : S → Option (S ⊕ X)) (l : List B) (st : Nat → A → S) (f : Nat → A → B → A ⊕ X) (fin : A → X) (I : Nat → A → Prop)
   (last : ∀ a, I l.length a → F (st l.length a) = some (.inr (fin a)))
   (step : ∀ i (hi : i < l.length) a, I i a → (∃ a', f i a l[i] = .inl a' ∧ I (i + 1) a' ∧ F (st i a) = some (.inl (st (i + 1) a'))) ∨ (∃ x, f i a l[i] = .inr x ∧ F (st i a) = some (.inr x)))
   {a : A} (h0 : I 0 a) : loopC F (st 0 a) = some (scanE f fin 0 l a) := by
 have key : ∀ k i a, i + k = l.length → I i a → loopC F (st i a) = some (scanE f fin i (l.drop i) a) := by
   intro k
   induction k with
   | zero =>
     intro i a h hI
     rw [show i = l.length by omega] at hI ⊢
     rw [ze6, last a hI, List.drop_length]; rfl
   | succ k ih =>
     intro i a h hI
     have hi : i < l.length := by omega
     rw [ze6, List.drop_eq_getElem_cons hi, scanE]
     rcases step i hi a hI with ⟨a', h1, h2, h3⟩ | ⟨x, h1, h3⟩
     · rw [h3, h1]
       exact ih (i + 1) a' (by omega) h2
     · rw [h3, h1]; rfl
 simpa using key l.length 0 a (by omega) h0
theorem zi1 {B X : Type} (p : B → Bool) (yes : Nat → B → X) (no : X) : ∀ (l : List B) (i : Nat),
   (l.any p = false ∧ scanE (fun i (_ : Unit) b => if p b = true then .inr (yes i b) else .inl ()) (fun _ => no) i l () = no) ∨
   (l.any p = true ∧ ∃ j b, i ≤ j ∧ scanE (fun i (_ : Unit) b => if p b = true then .inr (yes i b) else .inl ()) (fun _ => no) i l () = yes j b)
 | [], i => .inl ⟨rfl, rfl⟩
 | b :: l, i => by
   rw [scanE, List.any_cons]
   cases hp : p b with
   | true => exact .inr ⟨rfl, i, b, Nat.le_refl _, by rfl⟩
   | false =>
     simp only [Bool.false_eq_true, if_false, Bool.false_or]
     rcases zi1 p yes no l (i + 1) with h | ⟨h, j, b', hj, e⟩
     · exact .inl h
     · exact .inr ⟨h, j, b', by omega, e⟩
def z4c (l : List (List Int)) (s : List Int) : Bool := l.any fun t => !decide (t = s) && z1s s t
def pathI (s : List Int) : Bool := decide ((z0d s).2 = 0)
theorem z11e (s : List Int) : (z0d s).2 = 0 ∨ (z0d s).2 = 20 := by
 unfold z0d
 repeat' split
 all_goals simp
theorem zzb {l m : List (List Int)} (h : ∀ x, x ∈ l ↔ x ∈ m) (s : List Int) : z4c l s = z4c m s := by
 unfold z4c
 rw [Bool.eq_iff_iff, List.any_eq_true, List.any_eq_true]
 exact ⟨fun ⟨x, hx, e⟩ => ⟨x, (h x).1 hx, e⟩, fun ⟨x, hx, e⟩ => ⟨x, (h x).2 hx, e⟩⟩
def zqe (l : List (List Int)) : List (List Int) × Int :=
 if l.all pathI = true then
   if 8 < ((setL l).filter fun s => !z4c l s).length then ([], 4) else ((setL l).filter fun s => !z4c l s, 0)
 else ([], 20)
theorem zwj (l : List (List Int)) : (sortL l).length = l.length := by simp [sortL]
theorem z16l (l : List (List Int)) : (setL l).length ≤ l.length := by
 unfold setL compL
 rw [List.length_map]
 refine Nat.le_trans (Lib.compact_length_le _) ?_
 rw [List.length_map, zwj]; exact Nat.le_refl _
structure Few (l : List (List Int)) : Prop where
 bs : ∀ s, s ∈ l → Bs s
 len : l.length ≤ 100
 short : ∀ s, s ∈ l → s.length ≤ 1000
theorem z14k {m : List (List Int)} (hm : Few m) {x : List Int} (hx : Bs x) (hl : x.length ≤ 1000) (t16 out : List (List Int)) (t17 t18 : Int) :
   (z4c m x = false ∧ loopC z0a (m, x, t16, t17, t18, m, (List.length m : Int), 0, out) = some (.inr (m, x, t16, t17, t18, out))) ∨
   (z4c m x = true ∧ ∃ t, loopC z0a (m, x, t16, t17, t18, m, (List.length m : Int), 0, out) = some (.inl (m, t16, t17, t18, x, t, true, out))) := by
 have hloop : loopC z0a (m, x, t16, t17, t18, m, (List.length m : Int), ((0 : Nat) : Int), out) =
     some (scanE (fun i (_ : Unit) t => if (!decide (t = x) && z1s x t) = true then .inr (.inl (m, t16, t17, t18, x, t, true, out)) else .inl ()) (fun _ => .inr (m, x, t16, t17, t18, out)) 0 m ()) := by
   refine zfg _ m (fun i (_ : Unit) => (m, x, t16, t17, t18, m, (List.length m : Int), (i : Int), out)) _ _ (fun _ _ => True) (fun _ _ => ?_) (fun i hi _ _ => ?_) trivial
   · unfold z0a z1i
     dsimp only
     rw [ltI_f (by omega), beq_self]; rfl
   · unfold z0a z1i
     dsimp only
     have hlen := hm.len
     have hmem := List.getElem_mem hi
     rw [ltI_t (by omega), cond_true, za3 hi, z5o (by omega)]
     simp only [Option.bind_some]
     rw [zmg hx (hm.bs _ hmem) hl (hm.short _ hmem)]
     simp only [Option.bind_some]
     by_cases e : m[i] = x
     · left
       exact ⟨(), by rw [decide_eq_true e]; rfl, trivial, by rw [eqS_t e, beq_self]; rfl⟩
     · cases hw : z1s x m[i] with
       | false =>
         left
         exact ⟨(), by rw [decide_eq_false e]; rfl, trivial, by rw [eqS_f e, beq_self]; rfl⟩
       | true =>
         right
         exact ⟨_, by rw [decide_eq_false e]; rfl, by rw [eqS_f e, beq_self]; rfl⟩
 have hz : ((0 : Nat) : Int) = 0 := rfl
 rw [hz] at hloop
 rcases zi1 (fun t => !decide (t = x) && z1s x t) (fun _ t => (Sum.inl (m, t16, t17, t18, x, t, true, out) : z1j)) (.inr (m, x, t16, t17, t18, out)) m 0 with ⟨h1, h2⟩ | ⟨h1, j, t, _, h2⟩
 · exact .inl ⟨h1, by rw [hloop]; exact congrArg some h2⟩
 · exact .inr ⟨h1, t, by rw [hloop]; exact congrArg some h2⟩
def stepI (m : List (List Int)) (_ : Nat) (out : List (List Int)) (s : List Int) : List (List Int) ⊕ z0w :=
 if pathI s = true then (if z4c m s = true then .inl out else .inl (out ++ [s])) else .inr (.inr ([], 20))
theorem znc (m : List (List Int)) : ∀ (l : List (List Int)) (i : Nat) (out : List (List Int)),
   scanE (stepI m) (fun out => (Sum.inl out : z0w)) i l out = if l.all pathI = true then .inl (out ++ l.filter fun s => !z4c m s) else .inr ([], 20)
 | [], i, out => by simp [scanE]
 | s :: l, i, out => by
   rw [scanE]
   unfold stepI
   cases hp : pathI s with
   | false => simp [hp]
   | true =>
     cases hu : z4c m s with
     | true =>
       simp only [if_true]
       rw [show scanE (fun (_ : Nat) out s => if pathI s = true then (if z4c m s = true then .inl out else .inl (out ++ [s])) else .inr (.inr ([], 20))) (fun out => (Sum.inl out : z0w)) (i + 1) l out = _ from znc m l (i + 1) out]
       simp [hp, hu]
     | false =>
       simp only [if_true, Bool.false_eq_true, if_false]
       rw [show scanE (fun (_ : Nat) out s => if pathI s = true then (if z4c m s = true then .inl out else .inl (out ++ [s])) else .inr (.inr ([], 20))) (fun out => (Sum.inl out : z0w)) (i + 1) l (out ++ [s]) = _ from znc m l (i + 1) (out ++ [s])]
       simp [hp, hu]
theorem z14h {m : List (List Int)} (hm : Few m) :
   loopC z0g (m, m, (List.length m : Int), 0, []) = some (if m.all pathI = true then .inl (m.filter fun s => !z4c m s) else .inr ([], 20)) := by
 have hloop : loopC z0g (m, m, (List.length m : Int), ((0 : Nat) : Int), []) = some (scanE (stepI m) (fun out => (Sum.inl out : z0w)) 0 m []) := by
   refine zfg _ m (fun i out => (m, m, (List.length m : Int), (i : Int), out)) _ _ (fun i out => out.length ≤ i) (fun out _ => ?_) (fun i hi out hI => ?_) (Nat.le_refl _)
   · unfold z0g z2a
     dsimp only
     rw [ltI_f (by omega), beq_self]; rfl
   · have hlen := hm.len
     have hmem := List.getElem_mem hi
     have hb := hm.bs _ hmem
     have hs := hm.short _ hmem
     unfold stepI
     cases hp : pathI m[i] with
     | false =>
       right
       refine ⟨.inr ([], 20), rfl, ?_⟩
       unfold z0g z2a
       dsimp only
       rw [ltI_t (by omega), cond_true, za3 hi]
       simp only [Option.bind_some]
       rw [zh8 hb hs]
       simp only [Option.bind_some]
       have h0 : ¬ (z0d m[i]).2 = 0 := by simpa [pathI] using hp
       have h20 : (z0d m[i]).2 = 20 := by rcases z11e m[i] with h | h; exact absurd h h0; exact h
       rw [neI_t h0, h20]; rfl
     | true =>
       left
       have h0 : (z0d m[i]).2 = 0 := by simpa [pathI] using hp
       rcases z14k hm hb hs m out (List.length m : Int) (i : Int) with ⟨h1, h2⟩ | ⟨h1, t, h2⟩
       · refine ⟨out ++ [m[i]], by rw [h1]; rfl, by simp; omega, ?_⟩
         unfold z0g z2a
         dsimp only
         rw [ltI_t (by omega), cond_true, za3 hi]
         simp only [Option.bind_some]
         rw [zh8 hb hs]
         simp only [Option.bind_some]
         rw [neI_f h0, cond_false, z3m (by omega), beq_self, cond_true, h2]
         simp only [Option.bind_some, Sum.elim_inr]
         rw [beq_self, cond_true, z12v (by simp; omega), beq_self, cond_true, z5o (by omega)]
       · refine ⟨out, by rw [h1]; rfl, by omega, ?_⟩
         unfold z0g z2a
         dsimp only
         rw [ltI_t (by omega), cond_true, za3 hi]
         simp only [Option.bind_some]
         rw [zh8 hb hs]
         simp only [Option.bind_some]
         rw [neI_f h0, cond_false, z3m (by omega), beq_self, cond_true, h2]
         simp only [Option.bind_some, Sum.elim_inl]
         rw [beq_self, cond_true, z5o (by omega)]
 have hz : ((0 : Nat) : Int) = 0 := rfl
 rw [hz] at hloop
 rw [hloop, znc]
 simp
theorem z16t {l : List (List Int)} (h : Few l) : Few (setL l) where
 bs := fun s hs => h.bs s (((zmf h.bs).2 s).1 hs)
 len := Nat.le_trans (z16l l) h.len
 short := fun s hs => h.short s (((zmf h.bs).2 s).1 hs)
theorem z14v {l m : List (List Int)} (h : ∀ x, x ∈ l ↔ x ∈ m) (p : List Int → Bool) : l.all p = m.all p := by
 rw [Bool.eq_iff_iff, List.all_eq_true, List.all_eq_true]
 exact ⟨fun g x hx => g x ((h x).2 hx), fun g x hx => g x ((h x).1 hx)⟩
theorem z14g {l : List (List Int)} (h : Few l) : zda l = some (zqe l) := by
 have hlen := h.len
 have hs := zmf h.bs
 unfold zda
 rw [show zd4 l = some l from rfl]
 simp only [Option.bind_some]
 have e1 : zga l = some (l, sortL l) := by
   unfold zga
   rw [ble_t (by omega)]; rfl
 have e2 : zer (sortL l) = some (setL l) := by
   unfold zer
   rw [ble_t (by rw [zwj]; omega)]; rfl
 rw [e1]
 simp only [Option.bind_some]
 rw [beq_self, cond_true, e2]
 simp only [Option.bind_some]
 have hf := z16t h
 have hfl := hf.len
 rw [z3m (by omega), show Nat.beq 0 (List.length ([] : List (List Int))) = true from rfl, cond_true, z14h hf]
 have eu : (fun s => !z4c (setL l) s) = fun s => !z4c l s := funext fun s => by rw [zzb hs.2 s]
 rw [eu, z14v hs.2]
 unfold zqe
 simp only [Option.bind_some]
 cases hp : l.all pathI with
 | false => rfl
 | true =>
   simp only [if_true, Sum.elim_inl]
   have hfil : ((setL l).filter fun s => !z4c l s).length ≤ (setL l).length := List.length_filter_le _ _
   rw [z3m (by omega)]
   by_cases h8 : 8 < ((setL l).filter fun s => !z4c l s).length
   · rw [ltI_t (by omega), if_pos h8]; rfl
   · rw [ltI_f (by omega), if_neg h8, cond_false, zuh]
end Go.Proofs.YtomgkgngbpnngaaGreatDoor
set_option maxRecDepth 100000
set_option linter.unusedVariables false
set_option linter.unusedSimpArgs false
namespace Go.Proofs.YtomgkgngbpnngaaGreatDoor
open Go.Tm Go.Ab Go.Lib
def hasI (l : List (List Int)) (at_ : List Int) : Bool := l.isEmpty || l.any fun s => z1s at_ s
def zf7 (l : List (List Int)) (at_ : List Int) : Bool := hasI l at_ || l.any fun s => z1s s at_
theorem z10v {l : List (List Int)} (h : Few l) {a : List Int} (ha : Bs a) (hl : a.length ≤ 1000) : z7c l a = some (l.any fun s => z1s a s) := by
 have hlen := h.len
 unfold z7c zc5
 rw [z3m (by omega)]
 have hloop : loopC z0y (l, a, (List.length l : Int), ((0 : Nat) : Int)) =
     some (scanE (fun i (_ : Unit) s => if z1s a s = true then .inr (.inr (i : Int)) else .inl ()) (fun _ => .inl ()) 0 l ()) := by
   refine zfg _ l (fun i (_ : Unit) => (l, a, (List.length l : Int), (i : Int))) _ _ (fun _ _ => True) (fun _ _ => ?_) (fun i hi _ _ => ?_) trivial
   · unfold z0y z6d
     dsimp only
     rw [ltI_f (by omega)]; rfl
   · unfold z0y z6d zhn
     dsimp only
     have hmem := List.getElem_mem hi
     rw [ltI_t (by omega), cond_true, za3 hi, z5o (by omega)]
     simp only [Option.bind_some]
     rw [zmg ha (h.bs _ hmem) hl (h.short _ hmem)]
     simp only [Option.bind_some]
     cases hw : z1s a l[i] with
     | false => left; exact ⟨(), rfl, trivial, rfl⟩
     | true => right; exact ⟨_, rfl, rfl⟩
 have hz : ((0 : Nat) : Int) = 0 := rfl
 rw [hz] at hloop
 rcases zi1 (fun s => z1s a s) (fun i _ => (Sum.inr (i : Int) : z6e)) (.inl ()) l 0 with ⟨h1, h2⟩ | ⟨h1, j, t, _, h2⟩
 · rw [hloop, h1, h2]; rfl
 · rw [hloop, h1, h2]
   show some (leI 0 (j : Int)) = _
   rw [leI_t (by omega)]
theorem z12l {l : List (List Int)} (h : Few l) {a : List Int} (ha : Bs a) (hl : a.length ≤ 1000) : z5y l a = some (l.any fun s => z1s s a) := by
 have hlen := h.len
 unfold z5y zaq
 rw [z3m (by omega)]
 have hloop : loopC z0s (l, a, (List.length l : Int), ((0 : Nat) : Int)) =
     some (scanE (fun i (_ : Unit) s => if z1s s a = true then .inr (.inr (i : Int)) else .inl ()) (fun _ => .inl ()) 0 l ()) := by
   refine zfg _ l (fun i (_ : Unit) => (l, a, (List.length l : Int), (i : Int))) _ _ (fun _ _ => True) (fun _ _ => ?_) (fun i hi _ _ => ?_) trivial
   · unfold z0s z5k
     dsimp only
     rw [ltI_f (by omega)]; rfl
   · unfold z0s z5k zed
     dsimp only
     have hmem := List.getElem_mem hi
     rw [ltI_t (by omega), cond_true, za3 hi, z5o (by omega)]
     simp only [Option.bind_some]
     rw [zmg (h.bs _ hmem) ha (h.short _ hmem) hl]
     simp only [Option.bind_some]
     cases hw : z1s l[i] a with
     | false => left; exact ⟨(), rfl, trivial, rfl⟩
     | true => right; exact ⟨_, rfl, rfl⟩
 have hz : ((0 : Nat) : Int) = 0 := rfl
 rw [hz] at hloop
 rcases zi1 (fun s => z1s s a) (fun i _ => (Sum.inr (i : Int) : z5m)) (.inl ()) l 0 with ⟨h1, h2⟩ | ⟨h1, j, t, _, h2⟩
 · rw [hloop, h1, h2]; rfl
 · rw [hloop, h1, h2]
   show some (leI 0 (j : Int)) = _
   rw [leI_t (by omega)]
theorem z11z {l : List (List Int)} (h : Few l) {a : List Int} (ha : Bs a) (hl : a.length ≤ 1000) : zd0 l a = some (hasI l a) := by
 have hlen := h.len
 unfold zd0 hasI
 rw [z3m (by omega)]
 cases l with
 | nil => rfl
 | cons x l =>
   rw [eqI_f (by simp; omega), cond_false, z10v h ha hl]; rfl
theorem zpp {l : List (List Int)} (h : Few l) {a : List Int} (ha : Bs a) (hl : a.length ≤ 1000) : z9h l a = some (zf7 l a) := by
 unfold z9h zf7
 rw [z11z h ha hl]
 simp only [Option.bind_some]
 cases hasI l a with
 | true => rfl
 | false => rw [cond_false, z12l h ha hl]; rfl
theorem z15y : Few [] := ⟨fun s h => by simp at h, by simp, fun s h => by simp at h⟩
theorem z13t : z6o = some true := by
 have hb : ∀ s, s ∈ ([[47, 98], [47, 97, 47, 99], [47, 97]] : List (List Int)) → Bs s := by
   intro s hs
   simp only [List.mem_cons, List.not_mem_nil, or_false] at hs
   rcases hs with rfl | rfl | rfl <;> (unfold Bs; decide)
 have hf : Few ([[47, 98], [47, 97, 47, 99], [47, 97]] : List (List Int)) := ⟨hb, by simp, fun s hs => by
   simp only [List.mem_cons, List.not_mem_nil, or_false] at hs
   rcases hs with rfl | rfl | rfl <;> simp⟩
 have hset : setL ([[47, 98], [47, 97, 47, 99], [47, 97]] : List (List Int)) = [[47, 97], [47, 97, 47, 99], [47, 98]] := by
   refine zvc (zmf hb).1 (by unfold Inc; decide) fun x => ?_
   rw [(zmf hb).2]
   simp only [List.mem_cons, List.not_mem_nil, or_false]
   exact ⟨fun h => by rcases h with h | h | h <;> simp [h], fun h => by rcases h with h | h | h <;> simp [h]⟩
 have hc : zqe ([[47, 98], [47, 97, 47, 99], [47, 97]] : List (List Int)) = ([[47, 97], [47, 98]], 0) := by
   unfold zqe
   rw [hset]
   decide
 have hf2 : Few ([[47, 97], [47, 98]] : List (List Int)) := ⟨fun s hs => by
   simp only [List.mem_cons, List.not_mem_nil, or_false] at hs
   rcases hs with rfl | rfl <;> (unfold Bs; decide), by simp, fun s hs => by
   simp only [List.mem_cons, List.not_mem_nil, or_false] at hs
   rcases hs with rfl | rfl <;> simp⟩
 unfold z6o
 rw [z14g hf, hc]
 simp only [Option.bind_some]
 have e1 : hasI [[47, 97], [47, 98]] [47, 97, 47, 120] = true := by decide
 have e2 : zf7 [] [47] = true := by decide
 rw [z11z hf2 (by unfold Bs; decide) (by simp), e1, zpp z15y (by unfold Bs; decide) (by simp), e2]
 rfl
end Go.Proofs.YtomgkgngbpnngaaGreatDoor
set_option maxRecDepth 100000
set_option linter.unusedVariables false
set_option linter.unusedSimpArgs false
namespace Go.Proofs.YtomgkgngbpnngaaGreatDoor
open Go.Tm Go.Ab Go.Lib
theorem z5q {s t : List Int} : z1s s t = true ↔ pathI s = true ∧ pathI t = true ∧ (z0d t).1 <+: (z0d s).1 := by
 unfold z1s pathI
 simp only [Bool.and_eq_true, decide_eq_true_eq, List.isPrefixOf_iff_prefix]
 exact ⟨fun h => ⟨h.1.1, h.1.2, h.2⟩, fun h => ⟨⟨h.1, h.2.1⟩, h.2.2⟩⟩
theorem z15e {s t : List Int} (h1 : pathI s = true) (h2 : pathI t = true) (h : (z0d s).1 = (z0d t).1) : s = t := by
 unfold pathI at h1 h2
 rw [decide_eq_true_eq] at h1 h2
 rw [zpw h1, zpw h2, h]
theorem zxa {s : List Int} (h : pathI s = true) : z1s s s = true := z5q.2 ⟨h, h, List.prefix_rfl⟩
theorem zv6 {a b c : List Int} (h1 : z1s a b = true) (h2 : z1s b c = true) : z1s a c = true := by
 rw [z5q] at *
 exact ⟨h1.1, h2.2.1, h2.2.2.trans h1.2.2⟩
theorem z12n {l : List (List Int)} {s : List Int} : z4c l s = true ↔ ∃ t, t ∈ l ∧ t ≠ s ∧ z1s s t = true := by
 unfold z4c
 rw [List.any_eq_true]
 simp only [Bool.and_eq_true, Bool.not_eq_true', decide_eq_false_iff_not]
theorem z11f {l : List (List Int)} : ∀ (n : Nat) {s : List Int}, s ∈ l → pathI s = true → (z0d s).1.length ≤ n → ∃ t, t ∈ l ∧ z1s s t = true ∧ z4c l t = false
 | n, s, hs, hp, hn => by
   cases hu : z4c l s with
   | false => exact ⟨s, hs, zxa hp, hu⟩
   | true =>
     obtain ⟨u, hul, hne, hw⟩ := z12n.1 hu
     have hw' := z5q.1 hw
     have hlen : (z0d u).1.length < (z0d s).1.length := by
       rcases Nat.lt_or_ge (z0d u).1.length (z0d s).1.length with h | h
       · exact h
       · exact absurd (z15e hw'.2.1 hp (hw'.2.2.eq_of_length_le h)) hne
     match n, hn with
     | 0, hn => omega
     | n + 1, hn =>
       obtain ⟨t, ht, hwt, hut⟩ := z11f n hul hw'.2.1 (by omega)
       exact ⟨t, ht, zv6 hw hwt, hut⟩
theorem top {l : List (List Int)} {s : List Int} (hs : s ∈ l) (hp : pathI s = true) : ∃ t, t ∈ l ∧ z1s s t = true ∧ z4c l t = false := z11f _ hs hp (Nat.le_refl _)
theorem z11a {A B C : List (List Int)} (h1 : A <+: C) (h2 : B <+: C) : A <+: B ∨ B <+: A := by
 rcases Nat.le_total A.length B.length with h | h
 · exact .inl (List.prefix_of_prefix_length_le h1 h2 h)
 · exact .inr (List.prefix_of_prefix_length_le h2 h1 h)
theorem zz7 {s : List Int} (h : pathI s = true) : (s = [47] ∧ (z0d s).1 = []) ∨ (s ≠ [47] ∧ s.head? = some 47 ∧ (z0d s).1 = z1e 47 s.tail) := by
 unfold pathI at h
 rw [decide_eq_true_eq] at h
 unfold z0d at h ⊢
 split at h
 · cases h
 · rename_i h0
   rw [if_neg h0]
   split at h
   · rename_i h1
     rw [if_pos h1]
     exact .inl ⟨h1, rfl⟩
   · rename_i h1
     rw [if_neg h1]
     split at h
     · cases h
     · rename_i h2
       rw [if_neg h2]
       refine .inr ⟨h1, ?_, rfl⟩
       rcases Decidable.em (s.head? = some 47) with h3 | h3
       · exact h3
       · exact absurd (.inr h3) h0
theorem z18v {l : List (List Int)} (hb : ∀ s, s ∈ l → Bs s) (h : zex l = true) : Few l := by
 unfold zex at h
 simp only [Bool.and_eq_true, decide_eq_true_eq, List.all_eq_true] at h
 exact ⟨hb, by omega, fun s hs => by have := h.2 s hs; omega⟩
end Go.Proofs.YtomgkgngbpnngaaGreatDoor
set_option maxRecDepth 100000
set_option linter.unusedVariables false
namespace Go.Proofs.YtomgkgngbpnngaaGreatDoor
open Go.Ab Go.RowKit
theorem z10h (u : TypeId) (h : Tryz.prog.typeName? 3 u = some "*errors.errorString") : u = 120 :=
 typeName_ptr_named (nm := "errors.errorString") (by kernel_rfl) (by kernel_rfl) (by decide) u h
theorem zyc {W : World} (hL : laidMetH Tryz.prog Rows.chooseCleansRow.laid W) : gb ≤ W.heap.size ∧ Glob W := by
 have hL0 : laidMet Tryz.prog Rows.chooseCleansRow.laid W := by
   rw [MakeChecks.laidMetH_plain _ _ _ (by kernel_rfl)] at hL
   exact hL
 have h1 := hL0.tail
 have h2 := h1.tail
 have h3 := h2.tail
 have h4 := h3.tail
 have h5 := h4.tail
 have ht : Lib.TabIs Tryz.prog W "internal/strconv.uint64pow10" .u64 Lib.pow10Tab :=
   Lib.tabIs_of_head (g := 5) (t := 116) (e := 68) (n := 20) (by kernel_rfl) (by kernel_rfl) (by kernel_rfl) (by kernel_rfl) (by kernel_rfl) (by kernel_rfl) h2
 obtain ⟨a0, s0, hv0, -, -, -⟩ := laid_sentinel h4 (g := 4) (by kernel_rfl) (by kernel_rfl) Tryz.underlying74 z10h Tryz.underlying120 Tryz.underlying122 rfl rfl Tryz.underlying9 (by kernel_rfl) (by kernel_rfl)
 obtain ⟨a1, s1, hv1, -, -, -⟩ := laid_sentinel h5 (g := 3) (by kernel_rfl) (by kernel_rfl) Tryz.underlying74 z10h Tryz.underlying120 Tryz.underlying122 rfl rfl Tryz.underlying9 (by kernel_rfl) (by kernel_rfl)
 refine ⟨?_, ht, ⟨_, _, hv1⟩, ⟨_, _, hv0⟩⟩
 obtain ⟨ps, ⟨g, t, cs, fuel, p, q, hg, _, hv, _, _, _⟩, _⟩ := h1
 have hg7 : g = 7 := (Option.some.inj (hg.symm.trans (show Tryz.prog.globalNamed "math/bits.deBruijn64tab" = some 7 by kernel_rfl)))
 subst hg7
 unfold World.var? at hv
 rw [hg] at hv
 simp only [Option.bind_some] at hv
 have : 7 < W.heap.size := by
   rcases Nat.lt_or_ge 7 W.heap.size with h' | h'
   · exact h'
   · rw [Array.getElem?_eq_none h'] at hv; cases hv
 exact this
end Go.Proofs.YtomgkgngbpnngaaGreatDoor
set_option maxRecDepth 100000
set_option linter.unusedVariables false
noncomputable section
namespace Go.Proofs.YtomgkgngbpnngaaGreatDoor
open Go.Tm Go.Ab
def zut : Env := ⟨[], [], []⟩
theorem zjt : EnvsOK Tryz.prog zut := ⟨z1m _, z1c _, z1a _⟩
def zad : Shp := ⟨21, 0, [(3, .d .str)], []⟩
def z4h : XS := .one (.exit 0) zad.xe
theorem zgd : z4h.OK := XS.one_ok (z0c zad)
def z4m : Shp := ⟨21, 0, [(0, .d (.sl .str)), (3, .d .str), (4, .d (.int .i64))], []⟩
abbrev z8o := (List (List Int)) × (List Int) × Int
abbrev zbv := ((List Int))
def z8j (l : List (List Int)) (t3 : List Int) (i : Int) : Option (z8o ⊕ zbv) :=
 z0j (List.length l) (
 bif ltI i (List.length l : Nat) then
 (idxI l i).bind fun x =>
 catG ([47] : List Int) x fun _ =>
 catG t3 (([47] : List Int) ++ x) fun _ =>
 some (.inl (l, t3 ++ (([47] : List Int) ++ x), W64 (i + 1)))
 else
 some (.inr t3))
def z2c (s : z8o) : Option (z8o ⊕ zbv) := z8j s.1 s.2.1 s.2.2
theorem zhh : SoundD Tryz.prog (.loop (subC (bodyC Tryz.f13) [1, 1, 0, 1, 0, 0])) (loopD z4m.xe z4h (loopC z2c)) :=
 z3v (S := z4m.xe) (X := z4h) zjt (h := .no) (z0u [] (by kernel_rfl) trivial) (z0c z4m) zgd z2c (fun s => by kernel_rfl)
def zjc : Shp := ⟨1, 0, [(0, .d .str)], []⟩
def zm4 : XS := .one .ret zjc.xe
theorem zqg : zm4.OK := XS.one_ok (z0c zjc)
def zfv (l : List (List Int)) : Option (((List Int))) :=
 (loopC z2c (l, ([] : List Int), 0)).bind fun o =>
 bif eqS o ([] : List Int) then
 some ([47] : List Int)
 else
 some o
def zmm : Sig := ⟨13, [.d (.sl .str)], [], 0, zm4⟩
def zlc (x : (List (List Int))) : Option (((List Int))) := zfv x
theorem zu5 : FnOK Tryz.prog zmm zlc :=
 fn_ok zjt (h := (.two .no (.two .no (.two (.two .no (.over (loopD z4m.xe z4h (loopC z2c)))) .no)))) Tryz.func13 (z0u [.den (.loop (subC (bodyC Tryz.f13) [1, 1, 0, 1, 0, 0])) (loopD z4m.xe z4h (loopC z2c))] (by kernel_rfl) ⟨zhh, trivial⟩) (by kernel_rfl) zqg (fun x => by kernel_rfl)
def zpl : Env := ⟨[(entQ zl9 ziy), (entQ zl4 zj1), (entQ zei zcz), (entQ zln zj7), (entQ zmm zlc)], [], []⟩
theorem zfb : EnvsOK Tryz.prog zpl := ⟨z0n (z0x zse) (z0n (z0x zs1) (z0n (z0x zhu) (z0n (z0x zs0) (z0n (z0x zu5) (z1m _))))), z1c _, z1a _⟩
def z6y : Shp := ⟨51, 0, [], []⟩
def z7b : Shp := ⟨51, 0, [(4, .d .bool)], []⟩
def z1x : XS := .or (.exit 0) z6y.xe (.one .ret z7b.xe)
theorem zbs : z1x.OK := XS.or_ok (z0c z6y) (XS.one_ok (z0c z7b))
def z1w : Shp := ⟨51, 0, [(0, .d (.sl .str)), (5, .d (.sl .str)), (39, .d (.int .i64)), (40, .d (.int .i64))], []⟩
abbrev z4u := (List (List Int)) × (List (List Int)) × Int × Int
abbrev z5b := (Unit) ⊕ (Bool)
def z5d (l : List (List Int)) (parts : List (List Int)) (t39 : Int) (t40 : Int) : Option (z4u ⊕ z5b) :=
 bif ltI t40 t39 then
 bif subOk 0 t40 (List.length parts) then
 (zfv (subL parts 0 t40)).bind fun r =>
 (z9h l r).bind fun r2 =>
 bif !r2 then
 some (.inr (.inr false))
 else
 some (.inl (l, parts, t39, W64 (t40 + 1)))
 else none
 else
 some (.inr (.inl ()))
def z0o (s : z4u) : Option (z4u ⊕ z5b) := z5d s.1 s.2.1 s.2.2.1 s.2.2.2
theorem zcj : SoundD Tryz.prog (.loop (subC (bodyC Tryz.f4) [1, 1, 1, 1, 0, 1, 0, 0])) (loopD z1w.xe z1x (loopC z0o)) :=
 z3v (S := z1w.xe) (X := z1x) zfb (h := .no) (z0u [] (by kernel_rfl) trivial) (z0c z1w) zbs z0o (fun s => by kernel_rfl)
def zfd : Shp := ⟨1, 0, [(0, .d .bool)], []⟩
def zgx : XS := .one .ret zfd.xe
theorem zls : zgx.OK := XS.one_ok (z0c zfd)
def ze1 (l : List (List Int)) (t1 : List Int) : Option ((Bool)) :=
 (z6o).bind fun r =>
 bif !r then
 (z6o).bind fun r2 =>
 some r2
 else
 (za6 l).bind fun r3 =>
 bif !r3 then
 (z6o).bind fun r4 =>
 some r4
 else
 (za6 ([t1] : List (List Int))).bind fun r5 =>
 bif !r5 then
 (z6o).bind fun r6 =>
 some r6
 else
 (z9h l t1).bind fun r7 =>
 bif !r7 then
 (z6o).bind fun r8 =>
 some r8
 else
 (zet t1).bind fun r9 =>
 bif neI r9.2 0 then
 z0j (List.length l) (
 some (eqI (List.length l : Nat) 0))
 else
 z0j (List.length r9.1) (
 (loopC z0o (l, r9.1, (List.length r9.1 : Nat), 0)).bind fun o =>
 Sum.elim (fun y =>
 some true) (fun y2 =>
 some y2) o)
def zpj : Sig := ⟨4, [.d (.sl .str), .d .str], [], 0, zgx⟩
def zfr (x : (List (List Int)) × (List Int)) : Option ((Bool)) := ze1 x.1 x.2
theorem zo8 : FnOK Tryz.prog zpj zfr :=
 fn_ok zfb (h := (.two .no (.two .no (.two .no (.two .no (.two (.two .no (.over (loopD z1w.xe z1x (loopC z0o)))) .no)))))) Tryz.func4 (z0u [.den (.loop (subC (bodyC Tryz.f4) [1, 1, 1, 1, 0, 1, 0, 0])) (loopD z1w.xe z1x (loopC z0o))] (by kernel_rfl) ⟨zcj, trivial⟩) (by kernel_rfl) zls (fun x => by kernel_rfl)
end Go.Proofs.YtomgkgngbpnngaaGreatDoor