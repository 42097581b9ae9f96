import Derived.Test.YtomgkgngbpnngaaDoorCdDtoCdI
import Derived.Test.YtomgkgngbpnngaaDoorRows
import Derived.Stop.LaidErr
import Derived.Lib.LaidTab
import Derived.ProofKit
import Derived.Lay
import Derived.LaidMore
set_option maxRecDepth 100000
set_option linter.unusedVariables false
set_option linter.unusedSimpArgs false
namespace Go.Proofs.YtomgkgngbpnngaaDoor
open Go.Tm Go.Ab Go.Lib
def zky (l : List (List Int)) : Bool := decide (l.length ≤ 20) && l.all fun s => decide (s.length ≤ 200)
theorem z11h {l : List (List Int)} (h1 : l.length ≤ maxLen) (h2 : ∀ s, s ∈ l → s.length ≤ maxLen) : zdz l = some (zky l) := by
 unfold maxLen at h1 h2
 refine ok_is ?_
 unfold zdz zky
 repeat' first
   | (dsimp only [Int.toNat_natCast, List.length_nil])
   | with_reducible first | refine zih ?_ | refine zj1 ?_ | refine z4e ?_ | refine ziv ?_ | refine zfz ?_ | refine zm5 ?_ | refine qs ?_ | refine qb ?_ | refine zli ?_ | refine qw ?_ | refine zm4 ?_ | refine zm6 ?_ | refine qi ?_ | refine qg (h := ?_) | refine qx (h := ?_) | refine qy (h := ?_) | refine qa ?_ | refine qc ?_ | refine ql ?_ | refine qp ?_ | refine zi5 ?_ | rfl
   | (with_reducible first | refine ok_lt ?_ ?_ | refine ok_le ?_ ?_ | refine zlp ?_ ?_ | refine zlb ?_ ?_ | refine zme ?_ ?_ | refine qu ?_ ?_ | refine ok_if ?_ ?_) <;> intro _ <;> try (exfalso; omega)
 · rw [decide_eq_false (by omega)]; rfl
 · rw [decide_eq_true (by omega)]
   have hloop : loopC z1h (l, (l.length : Int), 0) = some (if (l.any fun s => !decide (s.length ≤ 200)) = true then .inr false else .inl ()) := by
     refine zrt _ l (fun i => (l, (l.length : Int), (i : Int))) (fun s => !decide (s.length ≤ 200)) _ _ ?_ fun i hi => ?_
     · unfold z1h z6o
       dsimp only
       rw [ltI_f (by omega)]; rfl
     · unfold z1h z6o
       dsimp only
       have := h2 l[i] (List.getElem_mem hi)
       rw [ltI_t (by omega), cond_true, z6m hi, z9g (by omega)]
       simp only [Option.bind_some]
       rw [z3i (by omega)]
       by_cases e : l[i].length ≤ 200
       · rw [ltI_f (by omega), decide_eq_true e]; rfl
       · rw [ltI_t (by omega), decide_eq_false e]; rfl
   have hany : (l.any fun s => !decide (s.length ≤ 200)) = !(l.all fun s => decide (s.length ≤ 200)) := by rw [List.not_all_eq_any_not]
   rw [hloop, hany]
   cases (l.all fun s => decide (s.length ≤ 200)) <;> exact z4e (z4e rfl)
def scanE {A B X : Type} (f : Nat → A → B → A ⊕ X) (fin : A → X) : Nat → List B → A → X
 | _, [], a => fin a
 | i, b :: l, a => match f i a b with
   | .inl a' => scanE f fin (i + 1) l a'
   | .inr x => x
theorem zgx {S X A B : Type} (F : S → Option (S ⊕ X)) (l : List B) (st : Nat → A → S) (f : Nat → A → B → A ⊕ X) (fin : A → X) (I : Nat → A → Prop)
   (last : ∀ a, I l.length a → F (st l.length a) = some (.inr (fin a)))
   (step : ∀ i (hi : i < l.length) a, I i a → (∃ a', f i a l[i] = .inl a' ∧ I (i + 1) a' ∧ F (st i a) = some (.inl (st (i + 1) a'))) ∨ (∃ x, f i a l[i] = .inr x ∧ F (st i a) = some (.inr x)))
   {a : A} (h0 : I 0 a) : loopC F (st 0 a) = some (scanE f fin 0 l a) := by
 have key : ∀ k i a, i + k = l.length → I i a → loopC F (st i a) = some (scanE f fin i (l.drop i) a) := by
   intro k
   induction k with
   | zero =>
     intro i a h hI
     rw [show i = l.length by omega] at hI ⊢
     rw [zbp, last a hI, List.drop_length]; rfl
   | succ k ih =>
     intro i a h hI
     have hi : i < l.length := by omega
     rw [zbp, List.drop_eq_getElem_cons hi, scanE]
     rcases step i hi a hI with ⟨a', h1, h2, h3⟩ | ⟨x, h1, h3⟩
     · rw [h3, h1]
       exact ih (i + 1) a' (by omega) h2
     · rw [h3, h1]; rfl
 simpa using key l.length 0 a (by omega) h0
theorem zgu {B X : Type} (p : B → Bool) (yes : Nat → B → X) (no : X) : ∀ (l : List B) (i : Nat),
   (l.any p = false ∧ scanE (fun i (_ : Unit) b => if p b = true then .inr (yes i b) else .inl ()) (fun _ => no) i l () = no) ∨
   (l.any p = true ∧ ∃ j b, i ≤ j ∧ scanE (fun i (_ : Unit) b => if p b = true then .inr (yes i b) else .inl ()) (fun _ => no) i l () = yes j b)
 | [], i => .inl ⟨rfl, rfl⟩
 | b :: l, i => by
   rw [scanE, List.any_cons]
   cases hp : p b with
   | true => exact .inr ⟨rfl, i, b, Nat.le_refl _, by rfl⟩
   | false =>
     simp only [Bool.false_eq_true, if_false, Bool.false_or]
     rcases zgu p yes no l (i + 1) with h | ⟨h, j, b', hj, e⟩
     · exact .inl h
     · exact .inr ⟨h, j, b', by omega, e⟩
def z2j (l : List (List Int)) (s : List Int) : Bool := l.any fun t => !decide (t = s) && z1w s t
def pathI (s : List Int) : Bool := decide ((z2c s).2 = 0)
theorem zz8 (s : List Int) : (z2c s).2 = 0 ∨ (z2c s).2 = 20 := by
 unfold z2c
 repeat' split
 all_goals simp
theorem zqa {l m : List (List Int)} (h : ∀ x, x ∈ l ↔ x ∈ m) (s : List Int) : z2j l s = z2j m s := by
 unfold z2j
 rw [Bool.eq_iff_iff, List.any_eq_true, List.any_eq_true]
 exact ⟨fun ⟨x, hx, e⟩ => ⟨x, (h x).1 hx, e⟩, fun ⟨x, hx, e⟩ => ⟨x, (h x).2 hx, e⟩⟩
def z8e (l : List (List Int)) : List (List Int) × Int :=
 if l.all pathI = true then
   if 8 < ((setL l).filter fun s => !z2j l s).length then ([], 4) else ((setL l).filter fun s => !z2j l s, 0)
 else ([], 20)
theorem zty (l : List (List Int)) : (sortL l).length = l.length := by simp [sortL]
theorem z14s (l : List (List Int)) : (setL l).length ≤ l.length := by
 unfold setL compL
 rw [List.length_map]
 refine Nat.le_trans (Lib.compact_length_le _) ?_
 rw [List.length_map, zty]; exact Nat.le_refl _
structure Few (l : List (List Int)) : Prop where
 bs : ∀ s, s ∈ l → Bs s
 len : l.length ≤ 100
 short : ∀ s, s ∈ l → s.length ≤ 1000
theorem z12h {m : List (List Int)} (hm : Few m) {x : List Int} (hx : Bs x) (hl : x.length ≤ 1000) (t16 out : List (List Int)) (t17 t18 : Int) :
   (z2j m x = false ∧ loopC z0a (m, x, t16, t17, t18, m, (List.length m : Int), 0, out) = some (.inr (m, x, t16, t17, t18, out))) ∨
   (z2j m x = true ∧ ∃ t, loopC z0a (m, x, t16, t17, t18, m, (List.length m : Int), 0, out) = some (.inl (m, t16, t17, t18, x, t, true, out))) := by
 have hloop : loopC z0a (m, x, t16, t17, t18, m, (List.length m : Int), ((0 : Nat) : Int), out) =
     some (scanE (fun i (_ : Unit) t => if (!decide (t = x) && z1w x t) = true then .inr (.inl (m, t16, t17, t18, x, t, true, out)) else .inl ()) (fun _ => .inr (m, x, t16, t17, t18, out)) 0 m ()) := by
   refine zgx _ m (fun i (_ : Unit) => (m, x, t16, t17, t18, m, (List.length m : Int), (i : Int), out)) _ _ (fun _ _ => True) (fun _ _ => ?_) (fun i hi _ _ => ?_) trivial
   · unfold z0a z1n
     dsimp only
     rw [ltI_f (by omega), beq_self]; rfl
   · unfold z0a z1n
     dsimp only
     have hlen := hm.len
     have hmem := List.getElem_mem hi
     rw [ltI_t (by omega), cond_true, z6m hi, z9g (by omega)]
     simp only [Option.bind_some]
     rw [zm0 hx (hm.bs _ hmem) hl (hm.short _ hmem)]
     simp only [Option.bind_some]
     by_cases e : m[i] = x
     · left
       exact ⟨(), by rw [decide_eq_true e]; rfl, trivial, by rw [eqS_t e, beq_self]; rfl⟩
     · cases hw : z1w x m[i] with
       | false =>
         left
         exact ⟨(), by rw [decide_eq_false e]; rfl, trivial, by rw [eqS_f e, beq_self]; rfl⟩
       | true =>
         right
         exact ⟨_, by rw [decide_eq_false e]; rfl, by rw [eqS_f e, beq_self]; rfl⟩
 have hz : ((0 : Nat) : Int) = 0 := rfl
 rw [hz] at hloop
 rcases zgu (fun t => !decide (t = x) && z1w x t) (fun _ t => (Sum.inl (m, t16, t17, t18, x, t, true, out) : z1l)) (.inr (m, x, t16, t17, t18, out)) m 0 with ⟨h1, h2⟩ | ⟨h1, j, t, _, h2⟩
 · exact .inl ⟨h1, by rw [hloop]; exact congrArg some h2⟩
 · exact .inr ⟨h1, t, by rw [hloop]; exact congrArg some h2⟩
def stepI (m : List (List Int)) (_ : Nat) (out : List (List Int)) (s : List Int) : List (List Int) ⊕ z0x :=
 if pathI s = true then (if z2j m s = true then .inl out else .inl (out ++ [s])) else .inr (.inr ([], 20))
theorem zmh (m : List (List Int)) : ∀ (l : List (List Int)) (i : Nat) (out : List (List Int)),
   scanE (stepI m) (fun out => (Sum.inl out : z0x)) i l out = if l.all pathI = true then .inl (out ++ l.filter fun s => !z2j m s) else .inr ([], 20)
 | [], i, out => by simp [scanE]
 | s :: l, i, out => by
   rw [scanE]
   unfold stepI
   cases hp : pathI s with
   | false => simp [hp]
   | true =>
     cases hu : z2j m s with
     | true =>
       simp only [if_true]
       rw [show scanE (fun (_ : Nat) out s => if pathI s = true then (if z2j m s = true then .inl out else .inl (out ++ [s])) else .inr (.inr ([], 20))) (fun out => (Sum.inl out : z0x)) (i + 1) l out = _ from zmh m l (i + 1) out]
       simp [hp, hu]
     | false =>
       simp only [if_true, Bool.false_eq_true, if_false]
       rw [show scanE (fun (_ : Nat) out s => if pathI s = true then (if z2j m s = true then .inl out else .inl (out ++ [s])) else .inr (.inr ([], 20))) (fun out => (Sum.inl out : z0x)) (i + 1) l (out ++ [s]) = _ from zmh m l (i + 1) (out ++ [s])]
       simp [hp, hu]
theorem z12r {m : List (List Int)} (hm : Few m) :
   loopC z0e (m, m, (List.length m : Int), 0, []) = some (if m.all pathI = true then .inl (m.filter fun s => !z2j m s) else .inr ([], 20)) := by
 have hloop : loopC z0e (m, m, (List.length m : Int), ((0 : Nat) : Int), []) = some (scanE (stepI m) (fun out => (Sum.inl out : z0x)) 0 m []) := by
   refine zgx _ m (fun i out => (m, m, (List.length m : Int), (i : Int), out)) _ _ (fun i out => out.length ≤ i) (fun out _ => ?_) (fun i hi out hI => ?_) (Nat.le_refl _)
   · unfold z0e z1z
     dsimp only
     rw [ltI_f (by omega), beq_self]; rfl
   · have hlen := hm.len
     have hmem := List.getElem_mem hi
     have hb := hm.bs _ hmem
     have hs := hm.short _ hmem
     unfold stepI
     cases hp : pathI m[i] with
     | false =>
       right
       refine ⟨.inr ([], 20), rfl, ?_⟩
       unfold z0e z1z
       dsimp only
       rw [ltI_t (by omega), cond_true, z6m hi]
       simp only [Option.bind_some]
       rw [zgd hb hs]
       simp only [Option.bind_some]
       have h0 : ¬ (z2c m[i]).2 = 0 := by simpa [pathI] using hp
       have h20 : (z2c m[i]).2 = 20 := by rcases zz8 m[i] with h | h; exact absurd h h0; exact h
       rw [neI_t h0, h20]; rfl
     | true =>
       left
       have h0 : (z2c m[i]).2 = 0 := by simpa [pathI] using hp
       rcases z12h hm hb hs m out (List.length m : Int) (i : Int) with ⟨h1, h2⟩ | ⟨h1, t, h2⟩
       · refine ⟨out ++ [m[i]], by rw [h1]; rfl, by simp; omega, ?_⟩
         unfold z0e z1z
         dsimp only
         rw [ltI_t (by omega), cond_true, z6m hi]
         simp only [Option.bind_some]
         rw [zgd hb hs]
         simp only [Option.bind_some]
         rw [neI_f h0, cond_false, z3i (by omega), beq_self, cond_true, h2]
         simp only [Option.bind_some, Sum.elim_inr]
         rw [beq_self, cond_true, zug (by simp; omega), beq_self, cond_true, z9g (by omega)]
       · refine ⟨out, by rw [h1]; rfl, by omega, ?_⟩
         unfold z0e z1z
         dsimp only
         rw [ltI_t (by omega), cond_true, z6m hi]
         simp only [Option.bind_some]
         rw [zgd hb hs]
         simp only [Option.bind_some]
         rw [neI_f h0, cond_false, z3i (by omega), beq_self, cond_true, h2]
         simp only [Option.bind_some, Sum.elim_inl]
         rw [beq_self, cond_true, z9g (by omega)]
 have hz : ((0 : Nat) : Int) = 0 := rfl
 rw [hz] at hloop
 rw [hloop, zmh]
 simp
theorem zw4 {l : List (List Int)} (h : Few l) : Few (setL l) where
 bs := fun s hs => h.bs s (((zg0 h.bs).2 s).1 hs)
 len := Nat.le_trans (z14s l) h.len
 short := fun s hs => h.short s (((zg0 h.bs).2 s).1 hs)
theorem z11u {l m : List (List Int)} (h : ∀ x, x ∈ l ↔ x ∈ m) (p : List Int → Bool) : l.all p = m.all p := by
 rw [Bool.eq_iff_iff, List.all_eq_true, List.all_eq_true]
 exact ⟨fun g x hx => g x ((h x).2 hx), fun g x hx => g x ((h x).1 hx)⟩
theorem zoj {l : List (List Int)} (h : Few l) : za2 l = some (z8e l) := by
 have hlen := h.len
 have hs := zg0 h.bs
 unfold za2
 rw [show z9p l = some l from rfl]
 simp only [Option.bind_some]
 have e1 : zct l = some (l, sortL l) := by
   unfold zct
   rw [ble_t (by omega)]; rfl
 have e2 : zb4 (sortL l) = some (setL l) := by
   unfold zb4
   rw [ble_t (by rw [zty]; omega)]; rfl
 rw [e1]
 simp only [Option.bind_some]
 rw [beq_self, cond_true, e2]
 simp only [Option.bind_some]
 have hf := zw4 h
 have hfl := hf.len
 rw [z3i (by omega), show Nat.beq 0 (List.length ([] : List (List Int))) = true from rfl, cond_true, z12r hf]
 have eu : (fun s => !z2j (setL l) s) = fun s => !z2j l s := funext fun s => by rw [zqa hs.2 s]
 rw [eu, z11u hs.2]
 unfold z8e
 simp only [Option.bind_some]
 cases hp : l.all pathI with
 | false => rfl
 | true =>
   simp only [if_true, Sum.elim_inl]
   have hfil : ((setL l).filter fun s => !z2j l s).length ≤ (setL l).length := List.length_filter_le _ _
   rw [z3i (by omega)]
   by_cases h8 : 8 < ((setL l).filter fun s => !z2j l s).length
   · rw [ltI_t (by omega), if_pos h8]; rfl
   · rw [ltI_f (by omega), if_neg h8, cond_false, zol]
end Go.Proofs.YtomgkgngbpnngaaDoor
set_option maxRecDepth 100000
set_option linter.unusedVariables false
set_option linter.unusedSimpArgs false
namespace Go.Proofs.YtomgkgngbpnngaaDoor
open Go.Tm Go.Ab Go.Lib
def hasI (l : List (List Int)) (at_ : List Int) : Bool := l.isEmpty || l.any fun s => z1w at_ s
def zur (l : List (List Int)) (at_ : List Int) : Bool := hasI l at_ || l.any fun s => z1w s at_
theorem zys {l : List (List Int)} (h : Few l) {a : List Int} (ha : Bs a) (hl : a.length ≤ 1000) : z6n l a = some (l.any fun s => z1w a s) := by
 have hlen := h.len
 unfold z6n zbr
 rw [z3i (by omega)]
 have hloop : loopC z0y (l, a, (List.length l : Int), ((0 : Nat) : Int)) =
     some (scanE (fun i (_ : Unit) s => if z1w a s = true then .inr (.inr (i : Int)) else .inl ()) (fun _ => .inl ()) 0 l ()) := by
   refine zgx _ l (fun i (_ : Unit) => (l, a, (List.length l : Int), (i : Int))) _ _ (fun _ _ => True) (fun _ _ => ?_) (fun i hi _ _ => ?_) trivial
   · unfold z0y z5o
     dsimp only
     rw [ltI_f (by omega)]; rfl
   · unfold z0y z5o zge
     dsimp only
     have hmem := List.getElem_mem hi
     rw [ltI_t (by omega), cond_true, z6m hi, z9g (by omega)]
     simp only [Option.bind_some]
     rw [zm0 ha (h.bs _ hmem) hl (h.short _ hmem)]
     simp only [Option.bind_some]
     cases hw : z1w a l[i] with
     | false => left; exact ⟨(), rfl, trivial, rfl⟩
     | true => right; exact ⟨_, rfl, rfl⟩
 have hz : ((0 : Nat) : Int) = 0 := rfl
 rw [hz] at hloop
 rcases zgu (fun s => z1w a s) (fun i _ => (Sum.inr (i : Int) : z5m)) (.inl ()) l 0 with ⟨h1, h2⟩ | ⟨h1, j, t, _, h2⟩
 · rw [hloop, h1, h2]; rfl
 · rw [hloop, h1, h2]
   show some (leI 0 (j : Int)) = _
   rw [leI_t (by omega)]
theorem zzw {l : List (List Int)} (h : Few l) {a : List Int} (ha : Bs a) (hl : a.length ≤ 1000) : z5i l a = some (l.any fun s => z1w s a) := by
 have hlen := h.len
 unfold z5i z9t
 rw [z3i (by omega)]
 have hloop : loopC z0t (l, a, (List.length l : Int), ((0 : Nat) : Int)) =
     some (scanE (fun i (_ : Unit) s => if z1w s a = true then .inr (.inr (i : Int)) else .inl ()) (fun _ => .inl ()) 0 l ()) := by
   refine zgx _ l (fun i (_ : Unit) => (l, a, (List.length l : Int), (i : Int))) _ _ (fun _ _ => True) (fun _ _ => ?_) (fun i hi _ _ => ?_) trivial
   · unfold z0t z4t
     dsimp only
     rw [ltI_f (by omega)]; rfl
   · unfold z0t z4t zdo
     dsimp only
     have hmem := List.getElem_mem hi
     rw [ltI_t (by omega), cond_true, z6m hi, z9g (by omega)]
     simp only [Option.bind_some]
     rw [zm0 (h.bs _ hmem) ha (h.short _ hmem) hl]
     simp only [Option.bind_some]
     cases hw : z1w l[i] a with
     | false => left; exact ⟨(), rfl, trivial, rfl⟩
     | true => right; exact ⟨_, rfl, rfl⟩
 have hz : ((0 : Nat) : Int) = 0 := rfl
 rw [hz] at hloop
 rcases zgu (fun s => z1w s a) (fun i _ => (Sum.inr (i : Int) : z4s)) (.inl ()) l 0 with ⟨h1, h2⟩ | ⟨h1, j, t, _, h2⟩
 · rw [hloop, h1, h2]; rfl
 · rw [hloop, h1, h2]
   show some (leI 0 (j : Int)) = _
   rw [leI_t (by omega)]
theorem zzy {l : List (List Int)} (h : Few l) {a : List Int} (ha : Bs a) (hl : a.length ≤ 1000) : zck l a = some (hasI l a) := by
 have hlen := h.len
 unfold zck hasI
 rw [z3i (by omega)]
 cases l with
 | nil => rfl
 | cons x l =>
   rw [eqI_f (by simp; omega), cond_false, zys h ha hl]; rfl
theorem z11s {l : List (List Int)} (h : Few l) {a : List Int} (ha : Bs a) (hl : a.length ≤ 1000) : zcz l a = some (zur l a) := by
 unfold zcz zur
 rw [zzy h ha hl]
 simp only [Option.bind_some]
 cases hasI l a with
 | true => rfl
 | false => rw [cond_false, zzw h ha hl]; rfl
theorem z13e : Few [] := ⟨fun s h => by simp at h, by simp, fun s h => by simp at h⟩
theorem z11v : z9i = some true := by
 have hb : ∀ s, s ∈ ([[47, 98], [47, 97, 47, 99], [47, 97]] : List (List Int)) → Bs s := by
   intro s hs
   simp only [List.mem_cons, List.not_mem_nil, or_false] at hs
   rcases hs with rfl | rfl | rfl <;> (unfold Bs; decide)
 have hf : Few ([[47, 98], [47, 97, 47, 99], [47, 97]] : List (List Int)) := ⟨hb, by simp, fun s hs => by
   simp only [List.mem_cons, List.not_mem_nil, or_false] at hs
   rcases hs with rfl | rfl | rfl <;> simp⟩
 have hset : setL ([[47, 98], [47, 97, 47, 99], [47, 97]] : List (List Int)) = [[47, 97], [47, 97, 47, 99], [47, 98]] := by
   refine zom (zg0 hb).1 (by unfold Inc; decide) fun x => ?_
   rw [(zg0 hb).2]
   simp only [List.mem_cons, List.not_mem_nil, or_false]
   exact ⟨fun h => by rcases h with h | h | h <;> simp [h], fun h => by rcases h with h | h | h <;> simp [h]⟩
 have hc : z8e ([[47, 98], [47, 97, 47, 99], [47, 97]] : List (List Int)) = ([[47, 97], [47, 98]], 0) := by
   unfold z8e
   rw [hset]
   decide
 have hf2 : Few ([[47, 97], [47, 98]] : List (List Int)) := ⟨fun s hs => by
   simp only [List.mem_cons, List.not_mem_nil, or_false] at hs
   rcases hs with rfl | rfl <;> (unfold Bs; decide), by simp, fun s hs => by
   simp only [List.mem_cons, List.not_mem_nil, or_false] at hs
   rcases hs with rfl | rfl <;> simp⟩
 unfold z9i
 rw [zoj hf, hc]
 simp only [Option.bind_some]
 have e1 : hasI [[47, 97], [47, 98]] [47, 97, 47, 120] = true := by decide
 have e2 : zur [] [47] = true := by decide
 rw [zzy hf2 (by unfold Bs; decide) (by simp), e1, z11s z13e (by unfold Bs; decide) (by simp), e2]
 rfl
end Go.Proofs.YtomgkgngbpnngaaDoor
set_option maxRecDepth 100000
set_option linter.unusedVariables false
set_option linter.unusedSimpArgs false
namespace Go.Proofs.YtomgkgngbpnngaaDoor
open Go.Tm Go.Ab Go.Lib
theorem zjf {s t : List Int} : z1w s t = true ↔ pathI s = true ∧ pathI t = true ∧ (z2c t).1 <+: (z2c s).1 := by
 unfold z1w pathI
 simp only [Bool.and_eq_true, decide_eq_true_eq, List.isPrefixOf_iff_prefix]
 exact ⟨fun h => ⟨h.1.1, h.1.2, h.2⟩, fun h => ⟨⟨h.1, h.2.1⟩, h.2.2⟩⟩
theorem z10t {s t : List Int} (h1 : pathI s = true) (h2 : pathI t = true) (h : (z2c s).1 = (z2c t).1) : s = t := by
 unfold pathI at h1 h2
 rw [decide_eq_true_eq] at h1 h2
 rw [zuz h1, zuz h2, h]
theorem zw1 {s : List Int} (h : pathI s = true) : z1w s s = true := zjf.2 ⟨h, h, List.prefix_rfl⟩
theorem ztq {a b c : List Int} (h1 : z1w a b = true) (h2 : z1w b c = true) : z1w a c = true := by
 rw [zjf] at *
 exact ⟨h1.1, h2.2.1, h2.2.2.trans h1.2.2⟩
theorem zlx {l : List (List Int)} {s : List Int} : z2j l s = true ↔ ∃ t, t ∈ l ∧ t ≠ s ∧ z1w s t = true := by
 unfold z2j
 rw [List.any_eq_true]
 simp only [Bool.and_eq_true, Bool.not_eq_true', decide_eq_false_iff_not]
theorem zym {l : List (List Int)} : ∀ (n : Nat) {s : List Int}, s ∈ l → pathI s = true → (z2c s).1.length ≤ n → ∃ t, t ∈ l ∧ z1w s t = true ∧ z2j l t = false
 | n, s, hs, hp, hn => by
   cases hu : z2j l s with
   | false => exact ⟨s, hs, zw1 hp, hu⟩
   | true =>
     obtain ⟨u, hul, hne, hw⟩ := zlx.1 hu
     have hw' := zjf.1 hw
     have hlen : (z2c u).1.length < (z2c s).1.length := by
       rcases Nat.lt_or_ge (z2c u).1.length (z2c s).1.length with h | h
       · exact h
       · exact absurd (z10t hw'.2.1 hp (hw'.2.2.eq_of_length_le h)) hne
     match n, hn with
     | 0, hn => omega
     | n + 1, hn =>
       obtain ⟨t, ht, hwt, hut⟩ := zym n hul hw'.2.1 (by omega)
       exact ⟨t, ht, ztq hw hwt, hut⟩
theorem top {l : List (List Int)} {s : List Int} (hs : s ∈ l) (hp : pathI s = true) : ∃ t, t ∈ l ∧ z1w s t = true ∧ z2j l t = false := zym _ hs hp (Nat.le_refl _)
def z5g (l : List (List Int)) : List (List Int) := (setL l).filter fun s => !z2j l s
theorem z9h {l : List (List Int)} (hb : ∀ s, s ∈ l → Bs s) {x : List Int} : x ∈ z5g l ↔ x ∈ l ∧ z2j l x = false := by
 unfold z5g
 rw [List.mem_filter, (zg0 hb).2]
 simp
theorem zno {l : List (List Int)} (hb : ∀ s, s ∈ l → Bs s) : Inc (z5g l) := (zg0 hb).1.sublist List.filter_sublist
theorem zzc {l : List (List Int)} (h : ¬ (z8e l).2 = 0) : (z8e l).1 = [] := by
 unfold z8e at h ⊢
 repeat' split
 all_goals first | rfl | skip
 rename_i h1 h2
 rw [if_pos h1, if_neg h2] at h
 exact absurd rfl h
theorem z11p {l : List (List Int)} (h : (z8e l).2 = 0) : (z8e l).1 = z5g l ∧ l.all pathI = true ∧ (z5g l).length ≤ 8 := by
 unfold z8e at h ⊢
 split at h
 · rename_i h1
   split at h
   · cases h
   · rename_i h2
     rw [if_pos h1, if_neg h2]
     exact ⟨rfl, h1, by unfold z5g; omega⟩
 · cases h
theorem zvk {l : List (List Int)} (h : Few l) : Few (z5g l) where
 bs := fun s hs => h.bs s ((z9h h.bs).1 hs).1
 len := Nat.le_trans (List.length_filter_le _ _) (zw4 h).len
 short := fun s hs => h.short s ((z9h h.bs).1 hs).1
theorem z14x {l : List (List Int)} (hb : ∀ s, s ∈ l → Bs s) (h : zky l = true) : Few l := by
 unfold zky at h
 simp only [Bool.and_eq_true, decide_eq_true_eq, List.all_eq_true] at h
 exact ⟨hb, by omega, fun s hs => by have := h.2 s hs; omega⟩
end Go.Proofs.YtomgkgngbpnngaaDoor
set_option maxRecDepth 100000
set_option linter.unusedVariables false
namespace Go.Proofs.YtomgkgngbpnngaaDoor
open Go.Ab Go.RowKit
theorem zyp (u : TypeId) (h : Tryd.prog.typeName? 3 u = some "*errors.errorString") : u = 112 :=
 typeName_ptr_named (nm := "errors.errorString") (by kernel_rfl) (by kernel_rfl) (by decide) u h
theorem zw7 {W : World} (hL : laidMetH Tryd.prog Rows.chooseTwiceRow.laid W) : gb ≤ W.heap.size ∧ Glob W := by
 have hL0 : laidMet Tryd.prog Rows.chooseTwiceRow.laid W := by
   rw [MakeChecks.laidMetH_plain _ _ _ (by kernel_rfl)] at hL
   exact hL
 have h1 := hL0.tail
 have h2 := h1.tail
 have h3 := h2.tail
 have h4 := h3.tail
 have h5 := h4.tail
 have ht : Lib.TabIs Tryd.prog W "internal/strconv.uint64pow10" .u64 Lib.pow10Tab :=
   Lib.tabIs_of_head (g := 5) (t := 108) (e := 60) (n := 20) (by kernel_rfl) (by kernel_rfl) (by kernel_rfl) (by kernel_rfl) (by kernel_rfl) (by kernel_rfl) h2
 obtain ⟨a0, s0, hv0, -, -, -⟩ := laid_sentinel h4 (g := 4) (by kernel_rfl) (by kernel_rfl) Tryd.underlying66 zyp Tryd.underlying112 Tryd.underlying114 rfl rfl Tryd.underlying9 (by kernel_rfl) (by kernel_rfl)
 obtain ⟨a1, s1, hv1, -, -, -⟩ := laid_sentinel h5 (g := 3) (by kernel_rfl) (by kernel_rfl) Tryd.underlying66 zyp Tryd.underlying112 Tryd.underlying114 rfl rfl Tryd.underlying9 (by kernel_rfl) (by kernel_rfl)
 refine ⟨?_, ht, ⟨_, _, hv1⟩, ⟨_, _, hv0⟩⟩
 obtain ⟨ps, ⟨g, t, cs, fuel, p, q, hg, _, hv, _, _, _⟩, _⟩ := h1
 have hg7 : g = 7 := (Option.some.inj (hg.symm.trans (show Tryd.prog.globalNamed "math/bits.deBruijn64tab" = some 7 by kernel_rfl)))
 subst hg7
 unfold World.var? at hv
 rw [hg] at hv
 simp only [Option.bind_some] at hv
 have : 7 < W.heap.size := by
   rcases Nat.lt_or_ge 7 W.heap.size with h' | h'
   · exact h'
   · rw [Array.getElem?_eq_none h'] at hv; cases hv
 exact this
end Go.Proofs.YtomgkgngbpnngaaDoor
set_option maxRecDepth 100000
set_option linter.unusedVariables false
set_option linter.unusedSimpArgs false
namespace Go.Proofs.YtomgkgngbpnngaaDoor
open Go.Tm Go.Ab Go.Lib
theorem z10c : zan = za2 := rfl
theorem z14g {a b : List (List Int)} (ha : a.length ≤ 1000000) (hb : b.length ≤ 1000000) : zcw a b = some (decide (a = b)) := by
 refine ok_is ?_
 unfold zcw
 repeat' first
   | (dsimp only [Int.toNat_natCast, List.length_nil])
   | with_reducible first | refine zih ?_ | refine zj1 ?_ | refine z4e ?_ | refine ziv ?_ | refine zfz ?_ | refine zm5 ?_ | refine qs ?_ | refine qb ?_ | refine zli ?_ | refine qw ?_ | refine zm4 ?_ | refine zm6 ?_ | refine qi ?_ | refine qg (h := ?_) | refine qx (h := ?_) | refine qy (h := ?_) | refine qa ?_ | refine qc ?_ | refine ql ?_ | refine qp ?_ | refine zi5 ?_ | rfl
   | (with_reducible first | refine ok_lt ?_ ?_ | refine ok_le ?_ ?_ | refine zlp ?_ ?_ | refine zlb ?_ ?_ | refine zme ?_ ?_ | refine qu ?_ ?_ | refine ok_if ?_ ?_) <;> intro _ <;> try (exfalso; omega)
 · rename_i h
   have hl : a.length = b.length := by omega
   have hloop : loopC z1c (a, b, (a.length : Int), 0) = some (if diff a b a.length = true then .inr false else .inl ()) := by
     refine zos _ a.length (fun i => (a, b, (a.length : Int), (i : Int))) (fun i => !decide (a[i]? = b[i]?)) _ _ ?_ fun i hi => ?_
     · unfold z1c z6i
       dsimp only
       rw [ltI_f (by omega)]; rfl
     · unfold z1c z6i
       dsimp only
       rw [ltI_t (by omega), cond_true, z6m hi, z6m (show i < b.length by omega), z9g (by omega)]
       simp only [Option.bind_some]
       rw [getE hi, getE (show i < b.length by omega)]
       by_cases e : a[i] = b[i]
       · rw [eqS_t e, decide_eq_true (by rw [e])]; rfl
       · rw [eqS_f e, decide_eq_false (fun h => e (Option.some.inj h))]; rfl
   rw [hloop, z12z hl]
   by_cases e : a = b
   · rw [decide_eq_true e]; exact z4e (z4e rfl)
   · rw [decide_eq_false e]; exact z4e (z4e rfl)
 · rename_i h
   exact (decide_eq_false fun e => h (by rw [e])).symm
theorem zzl {S X A : Type} (F : S → Option (S ⊕ X)) (n : Nat) (st : Nat → A → S) (I : Nat → A → Prop) (Q : X → Prop)
   (last : ∀ a, I n a → ∃ x, F (st n a) = some (.inr x) ∧ Q x)
   (step : ∀ i a, i < n → I i a → (∃ a', F (st i a) = some (.inl (st (i + 1) a')) ∧ I (i + 1) a') ∨ (∃ x, F (st i a) = some (.inr x) ∧ Q x)) {a : A} (h0 : I 0 a) : ∃ x, loopC F (st 0 a) = some x ∧ Q x := by
 have key : ∀ k i a, i + k = n → I i a → ∃ x, loopC F (st i a) = some x ∧ Q x := by
   intro k
   induction k with
   | zero =>
     intro i a h hI
     rw [show i = n by omega] at hI ⊢
     obtain ⟨x, h1, h2⟩ := last a hI
     exact ⟨x, by rw [zbp, h1]; rfl, h2⟩
   | succ k ih =>
     intro i a h hI
     rcases step i a (by omega) hI with ⟨a', h1, h2⟩ | ⟨x, h1, h2⟩
     · obtain ⟨x, h3, h4⟩ := ih (i + 1) a' (by omega) h2
       exact ⟨x, by rw [zbp, h1]; exact h3, h4⟩
     · exact ⟨x, by rw [zbp, h1]; rfl, h2⟩
 exact key n 0 a (by omega) h0
theorem z14i {out : List (List Int)} (hl : out.length ≤ 100) : ∃ t, loopC z0f (out, (List.length out : Int), 0, []) = some (out, t) ∧ (∀ x, x ∈ t ↔ x ∈ out) ∧ t.length ≤ 2 * out.length := by
 obtain ⟨x, h1, t, rfl, h2, h3⟩ := zzl z0f out.length (fun i t => (out, (List.length out : Int), (i : Int), t)) (fun i t => (∀ x, x ∈ t → x ∈ out) ∧ (∀ j (hj : j < out.length), j < i → out[j] ∈ t) ∧ t.length = 2 * i)
   (fun x => ∃ t, x = (out, t) ∧ (∀ x, x ∈ t ↔ x ∈ out) ∧ t.length ≤ 2 * out.length)
   (fun t ⟨h1, h2, h3⟩ => by
     refine ⟨(out, t), ?_, t, rfl, fun x => ⟨h1 x, fun hx => ?_⟩, by omega⟩
     · unfold z0f z3p
       dsimp only
       rw [ltI_f (by omega), beq_self]; rfl
     · obtain ⟨j, hj, rfl⟩ := List.mem_iff_getElem.1 hx
       exact h2 j hj hj)
   (fun i t hi ⟨h1, h2, h3⟩ => by
     left
     have e1 : W64 ((W64 ((List.length out : Int) - 1)) - (i : Int)) = ((out.length - 1 - i : Nat) : Int) := by
       rw [zp6 (n := (List.length out : Int) - 1) (by omega), zp6 (by omega)]; omega
     have hi2 : out.length - 1 - i < out.length := by omega
     refine ⟨t ++ [out[out.length - 1 - i], out[i]], ?_, fun x hx => ?_, fun j hj hji => ?_, by simp; omega⟩
     · unfold z0f z3p
       dsimp only
       rw [ltI_t (by omega), cond_true, z3i (by omega), e1, z6m hi2, z6m hi, z9g (by omega)]
       simp only [Option.bind_some]
       rw [beq_self, cond_true, zug (by simp; omega), beq_self, cond_true]
     · rcases List.mem_append.1 hx with hx | hx
       · exact h1 x hx
       · simp only [List.mem_cons, List.not_mem_nil, or_false] at hx
         rcases hx with rfl | rfl <;> exact List.getElem_mem _
     · rw [List.mem_append]
       rcases Nat.lt_or_ge j i with h | h
       · exact .inl (h2 j hj h)
       · have : j = i := by omega
         subst this
         right; simp)
   (a := []) ⟨fun x hx => by simp at hx, fun j _ hj => by omega, rfl⟩
 exact ⟨t, h1, h2, h3⟩
theorem zx3 (l : List (List Int)) (hb : ∀ s, s ∈ l → Bs s) (g1 : l.length ≤ maxLen) (g2 : ∀ s, s ∈ l → s.length ≤ maxLen) : zau l = some true := by
 unfold zau
 rw [z11v, z11h g1 g2]
 simp only [Option.bind_some, Bool.not_true, cond_false]
 cases h1 : zky l with
 | false => rfl
 | true =>
   simp only [Bool.not_true, cond_false]
   have hf := z14x hb h1
   rw [z10c, zoj hf]
   simp only [Option.bind_some]
   rcases Decidable.em ((z8e l).2 = 0) with he | he
   · obtain ⟨e1, e2, e3⟩ := z11p he
     have hfc := zvk hf
     rw [neI_f he, cond_false, e1, z3i (by omega), show Nat.beq 0 (List.length ([] : List (List Int))) = true from rfl, cond_true]
     obtain ⟨t, t1, t2, t3⟩ := z14i (out := z5g l) (by omega)
     rw [t1]
     simp only [Option.bind_some]
     have hft : Few t := ⟨fun s hs => hfc.bs s ((t2 s).1 hs), by omega, fun s hs => hfc.short s ((t2 s).1 hs)⟩
     rw [zol, zoj hft]
     simp only [Option.bind_some]
     have hp : t.all pathI = true := List.all_eq_true.2 fun s hs => List.all_eq_true.1 e2 s ((z9h hb).1 ((t2 s).1 hs)).1
     have hu : ∀ s, s ∈ z5g l → z2j t s = false := fun s hs => by
       rw [zqa t2]
       have hu := ((z9h hb).1 hs).2
       cases hc : z2j (z5g l) s with
       | false => rfl
       | true =>
         obtain ⟨u, hul, hne, hw⟩ := zlx.1 hc
         rw [zlx.2 ⟨u, ((z9h hb).1 hul).1, hne, hw⟩] at hu
         cases hu
     have ec : z5g t = z5g l := zom (zno hft.bs) (zno hb) fun x => by
       rw [z9h hft.bs, t2]
       exact ⟨fun h => h.1, fun h => ⟨h, hu x h⟩⟩
     have ecl : z8e t = (z5g l, 0) := by
       unfold z8e
       rw [if_pos hp]
       have e4 : ((setL t).filter fun s => !z2j t s) = z5g l := ec
       rw [e4, if_neg (by omega)]
     rw [ecl]
     dsimp only
     rw [eqI_t rfl, cond_true, z14g (by omega) (by omega), decide_eq_true rfl]
     rfl
   · rw [neI_t he, cond_true, zzc he]; rfl
end Go.Proofs.YtomgkgngbpnngaaDoor