import Derived.Test.YtomgkgngbpnngaaGreatDoorCzJtoCzA5
set_option maxRecDepth 100000
set_option linter.unusedVariables false
set_option linter.unusedSimpArgs false
namespace Go.Proofs.YtomgkgngbpnngaaGreatDoor
open Go.Tm Go.Ab Go.Lib
theorem z16y {A B : List (List Int)} (l1 : A.length ≤ 10) (l2 : B.length ≤ 10) : zfu A B = some (B.isPrefixOf A) := by
 refine ok_is ?_
 unfold zfu
 repeat' first
   | (dsimp only [Int.toNat_natCast, List.length_nil])
   | with_reducible first | refine z2w ?_ | refine z2v ?_ | refine z0t ?_ | refine z2u ?_ | refine z1w ?_ | refine z3v ?_ | refine qs ?_ | refine qb ?_ | refine z4d ?_ | refine qw ?_ | refine z4g ?_ | refine z4f ?_ | refine qi ?_ | refine qg (h := ?_) | refine qx (h := ?_) | refine qy (h := ?_) | refine qa ?_ | refine qc ?_ | refine ql ?_ | refine qp ?_ | refine z2i ?_ | rfl
   | (with_reducible first | refine ok_lt ?_ ?_ | refine ok_le ?_ ?_ | refine z3z ?_ ?_ | refine z4c ?_ ?_ | refine z3y ?_ ?_ | refine qu ?_ ?_ | refine ok_if ?_ ?_) <;> intro _ <;> try (exfalso; omega)
 · have : B.isPrefixOf A = false := by
     cases hp : B.isPrefixOf A with
     | false => rfl
     | true => have := (zif.1 hp).1; omega
   rw [this]
 · have hle : B.length ≤ A.length := by omega
   have hloop : loopC z1o (A, B, 0) = some (if diff A B B.length = true then .inr false else .inl ()) := by
     refine zo5 _ B.length (fun i => (A, B, (i : Int))) (fun i => !decide (A[i]? = B[i]?)) _ _ ?_ fun i hi => ?_
     · unfold z1o z8k
       dsimp only
       rw [z0z (by omega), ltI_f (by omega)]; rfl
     · unfold z1o z8k
       dsimp only
       rw [z0z (by omega), ltI_t (by omega), cond_true, z2k hi, z2k (show i < A.length by omega), z3h (by omega)]
       simp only [Option.bind_some]
       rw [getE hi, getE (show i < A.length by omega)]
       by_cases e : A[i] = B[i]
       · rw [eqS_t e, decide_eq_true (by rw [e])]; rfl
       · rw [eqS_f e, decide_eq_false (fun h => e (Option.some.inj h))]; rfl
   rw [hloop, zs3 hle]
   cases B.isPrefixOf A <;> exact z0t (z0t rfl)
theorem zzi {s top : List Int} (hs : Bs s) (ht : Bs top) (ls : s.length ≤ 1000) (lt : top.length ≤ 1000) : zfo s top = some (z1h s top) := by
 refine ok_is ?_
 unfold zfo z1h
 rw [zli hs ls, zli ht lt]
 have l1 := zl3 s
 have l2 := zl3 top
 generalize z1c s = A at *
 generalize z1c top = B at *
 simp only [Option.bind_some]
 rw [z16y l1 l2]
 repeat' first
   | (dsimp only [Int.toNat_natCast, List.length_nil])
   | with_reducible first | refine z2w ?_ | refine z2v ?_ | refine z0t ?_ | refine z2u ?_ | refine z1w ?_ | refine z3v ?_ | refine qs ?_ | refine qb ?_ | refine z4d ?_ | refine qw ?_ | refine z4g ?_ | refine z4f ?_ | refine qi ?_ | refine qg (h := ?_) | refine qx (h := ?_) | refine qy (h := ?_) | refine qa ?_ | refine qc ?_ | refine ql ?_ | refine qp ?_ | refine z2i ?_ | rfl
   | (with_reducible first | refine ok_lt ?_ ?_ | refine ok_le ?_ ?_ | refine z3z ?_ ?_ | refine z4c ?_ ?_ | refine z3y ?_ ?_ | refine qu ?_ ?_ | refine ok_if ?_ ?_) <;> intro _ <;> try (exfalso; omega)
 · rename_i h1 h2; rw [h1, h2]; rfl
 · rename_i h1 h2; rw [h1, decide_eq_false h2]; rfl
 · rename_i h; rw [decide_eq_false h]; rfl
theorem z13a {a b : List (List Int)} (ha : a.length ≤ 1000000) (hb : b.length ≤ 1000000) : zf7 a b = some (decide (a = b)) := by
 refine ok_is ?_
 unfold zf7
 repeat' first
   | (dsimp only [Int.toNat_natCast, List.length_nil])
   | with_reducible first | refine z2w ?_ | refine z2v ?_ | refine z0t ?_ | refine z2u ?_ | refine z1w ?_ | refine z3v ?_ | refine qs ?_ | refine qb ?_ | refine z4d ?_ | refine qw ?_ | refine z4g ?_ | refine z4f ?_ | refine qi ?_ | refine qg (h := ?_) | refine qx (h := ?_) | refine qy (h := ?_) | refine qa ?_ | refine qc ?_ | refine ql ?_ | refine qp ?_ | refine z2i ?_ | rfl
   | (with_reducible first | refine ok_lt ?_ ?_ | refine ok_le ?_ ?_ | refine z3z ?_ ?_ | refine z4c ?_ ?_ | refine z3y ?_ ?_ | refine qu ?_ ?_ | refine ok_if ?_ ?_) <;> intro _ <;> try (exfalso; omega)
 · rename_i h
   have hl : a.length = b.length := by omega
   have hloop : loopC z2a (a, b, (a.length : Int), 0) = some (if diff a b a.length = true then .inr false else .inl ()) := by
     refine zo5 _ a.length (fun i => (a, b, (a.length : Int), (i : Int))) (fun i => !decide (a[i]? = b[i]?)) _ _ ?_ fun i hi => ?_
     · unfold z2a z9y
       dsimp only
       rw [ltI_f (by omega)]; rfl
     · unfold z2a z9y
       dsimp only
       rw [ltI_t (by omega), cond_true, z2k hi, z2k (show i < b.length by omega), z3h (by omega)]
       simp only [Option.bind_some]
       rw [getE hi, getE (show i < b.length by omega)]
       by_cases e : a[i] = b[i]
       · rw [eqS_t e, decide_eq_true (by rw [e])]; rfl
       · rw [eqS_f e, decide_eq_false (fun h => e (Option.some.inj h))]; rfl
   rw [hloop, z1cc hl]
   by_cases e : a = b
   · rw [decide_eq_true e]; exact z0t (z0t rfl)
   · rw [decide_eq_false e]; exact z0t (z0t rfl)
 · rename_i h
   exact (decide_eq_false fun e => h (by rw [e])).symm
theorem zsl {l : List (List Int)} (h : Few l) {s : List Int} (hs : Bs s) (hl : s.length ≤ 1000) : zbr l s = some (z0y l s) := by
 have hlen := h.len
 unfold zbr
 have hloop : loopC z2b (l, s, ((0 : Nat) : Int)) = some (scanE (fun i (_ : Unit) t => if (!decide (t = s) && z1h s t) = true then .inr (.inr true) else .inl ()) (fun _ => .inl ()) 0 l ()) := by
   refine zay _ l (fun i (_ : Unit) => (l, s, (i : Int))) _ _ (fun _ _ => True) (fun _ _ => ?_) (fun i hi _ _ => ?_) trivial
   · unfold z2b zaq
     dsimp only
     rw [z0z (by omega), ltI_f (by omega)]; rfl
   · unfold z2b zaq
     dsimp only
     have hmem := List.getElem_mem hi
     rw [z0z (by omega), ltI_t (by omega), cond_true, z2k hi, z3h (by omega)]
     simp only [Option.bind_some]
     rw [zzi hs (h.bs _ hmem) hl (h.short _ hmem)]
     simp only [Option.bind_some]
     by_cases e : l[i] = s
     · left; exact ⟨(), by rw [decide_eq_true e]; rfl, trivial, by rw [eqS_t e]; rfl⟩
     · cases hw : z1h s l[i] with
       | false => left; exact ⟨(), by rw [decide_eq_false e]; rfl, trivial, by rw [eqS_f e]; rfl⟩
       | true => right; exact ⟨_, by rw [decide_eq_false e]; rfl, by rw [eqS_f e]; rfl⟩
 have hz : ((0 : Nat) : Int) = 0 := rfl
 rw [hz] at hloop
 unfold z0y
 rcases zel (fun t => !decide (t = s) && z1h s t) (fun _ _ => (Sum.inr true : zaa)) (.inl ()) l 0 with ⟨h1, h2⟩ | ⟨h1, j, t, _, h2⟩
 · rw [hloop, h2, h1]; rfl
 · rw [hloop, h2, h1]; rfl
theorem z17p {s t : List Int} : (ltS s t || eqS s t) = !ltS t s := by
 rcases zvx s t with h | h | h
 · rw [h]
   cases h2 : ltS t s with
   | false => rfl
   | true => have := zej h h2; rw [zeh] at this; cases this
 · subst h; rw [zeh]; simp
 · rw [h]
   have h1 : ltS s t = false := by
     cases h2 : ltS s t with
     | false => rfl
     | true => have := zej h h2; rw [zeh] at this; cases this
   have h3 : ¬ s = t := fun e => by subst e; rw [zeh] at h; cases h
   rw [h1, eqS_f h3]; rfl
theorem z10s (l out : List (List Int)) (i : Nat) (hi : i < l.length) (hn : out.length ≤ 1000) : ∀ k : Nat, k ≤ out.length → (∀ j (hj : j < out.length), k ≤ j → ltS out[j] l[i] = false) →
   ∃ p : Nat, p ≤ out.length ∧ loopC z0g (l, out, (i : Int), (k : Int)) = some (l, out, (i : Int), (p : Int)) ∧ (∀ j (hj : j < out.length), p ≤ j → ltS out[j] l[i] = false) ∧
     (p = 0 ∨ ∃ hp : p - 1 < out.length, ltS out[p - 1] l[i] = true)
 | 0, _, h => by
   refine ⟨0, Nat.zero_le _, ?_, h, .inl rfl⟩
   rw [z8c]
   unfold z0g z3l
   dsimp only
   rw [ltI_f (by omega)]; rfl
 | k + 1, hk, h => by
   have e : W64 (((k + 1 : Nat) : Int) - 1) = (k : Int) := by rw [z7o (by omega)]; omega
   have hF : z0g (l, out, (i : Int), ((k + 1 : Nat) : Int)) = bif !ltS out[k] l[i] then some (.inl (l, out, (i : Int), (k : Int))) else some (.inr (l, out, (i : Int), ((k + 1 : Nat) : Int))) := by
     unfold z0g z3l
     dsimp only
     rw [ltI_t (by omega), cond_true, z2k hi, e, z2k (show k < out.length by omega)]
     simp only [Option.bind_some]
     rw [z17p]
   rw [z8c, hF]
   cases hlt : ltS out[k] l[i] with
   | false =>
     obtain ⟨p, h1, h2, h3, h4⟩ := z10s l out i hi hn k (by omega) fun j hj hkj => by
       rcases Nat.lt_or_ge k j with h' | h'
       · exact h j hj (by omega)
       · have : j = k := by omega
         subst this; exact hlt
     exact ⟨p, h1, h2, h3, h4⟩
   | true => exact ⟨k + 1, hk, rfl, h, .inr ⟨by omega, hlt⟩⟩
structure Kept (l : List (List Int)) (i : Nat) (out : List (List Int)) : Prop where
 inc : Inc out
 mem : ∀ x, x ∈ out ↔ x ∈ l.take i ∧ z0y l x = false
 len : out.length ≤ i
 ok : (l.take i).all pathI = true
theorem ztp {l : List (List Int)} {i : Nat} (hi : i < l.length) (x : List Int) : x ∈ l.take (i + 1) ↔ x ∈ l.take i ∨ x = l[i] := by
 rw [List.take_succ_eq_append_getElem hi, List.mem_append, List.mem_singleton]
theorem z10y {l : List (List Int)} {i : Nat} (hi : i < l.length) (h : (l.take i).all pathI = true) (hp : pathI l[i] = true) : (l.take (i + 1)).all pathI = true := by
 rw [List.all_eq_true] at *
 intro x hx
 rcases (ztp hi x).1 hx with hx | rfl
 · exact h x hx
 · exact hp
theorem zx4 {l out : List (List Int)} {i : Nat} (hi : i < l.length) (h : Kept l i out) (hp : pathI l[i] = true) (hs : z0y l l[i] = true ∨ l[i] ∈ out) : Kept l (i + 1) out where
 inc := h.inc
 mem := fun x => by
   rw [h.mem, ztp hi]
   refine ⟨fun g => ⟨.inl g.1, g.2⟩, fun g => ⟨?_, g.2⟩⟩
   rcases g.1 with g1 | rfl
   · exact g1
   · rcases hs with hs | hs
     · rw [hs] at g; cases g.2
     · exact ((h.mem _).1 hs).1
 len := Nat.le_succ_of_le h.len
 ok := z10y hi h.ok hp
theorem zzf {l out : List (List Int)} {i p : Nat} (hi : i < l.length) (h : Kept l i out) (hp : pathI l[i] = true) (hu : z0y l l[i] = false) (hpl : p ≤ out.length) (h1 : ∀ j (hj : j < out.length), p ≤ j → ltS out[j] l[i] = false)
   (h2 : p = 0 ∨ ∃ hp : p - 1 < out.length, ltS out[p - 1] l[i] = true) (h3 : ∀ hj : p < out.length, out[p] ≠ l[i]) : Kept l (i + 1) (out.take p ++ l[i] :: out.drop p) where
 inc := by
   have hinc := h.inc
   rw [← List.take_append_drop p out] at hinc
   have ⟨i1, i2, i3⟩ := List.pairwise_append.1 hinc
   have lo : ∀ a, a ∈ out.take p → ltS a l[i] = true := fun a ha => by
     obtain ⟨j, hj, rfl⟩ := List.mem_iff_getElem.1 ha
     rw [List.length_take] at hj
     rw [List.getElem_take]
     rcases h2 with h2 | ⟨hp1, h2⟩
     · omega
     · rcases Nat.lt_or_ge j (p - 1) with hj2 | hj2
       · exact zej (List.pairwise_iff_getElem.1 h.inc j (p - 1) (by omega) hp1 hj2) h2
       · have : j = p - 1 := by omega
         subst this; exact h2
   have hi2 : ∀ b, b ∈ out.drop p → ltS l[i] b = true := fun b hb => by
     obtain ⟨j, hj, rfl⟩ := List.mem_iff_getElem.1 hb
     rw [List.length_drop] at hj
     rw [List.getElem_drop]
     have key : ltS l[i] out[p] = true := by
       have hpo : p < out.length := by omega
       rcases zvx out[p] l[i] with h | h | h
       · rw [h1 p hpo (Nat.le_refl _)] at h; cases h
       · exact absurd h (h3 hpo)
       · exact h
     rcases Nat.eq_zero_or_pos j with hj0 | hj0
     · subst hj0; exact key
     · exact zej key (List.pairwise_iff_getElem.1 h.inc p (p + j) (by omega) (by omega) (by omega))
   refine List.pairwise_append.2 ⟨i1, List.pairwise_cons.2 ⟨hi2, i2⟩, fun a ha b hb => ?_⟩
   rcases List.mem_cons.1 hb with rfl | hb
   · exact lo a ha
   · exact i3 a ha b hb
 mem := fun x => by
   rw [ztp hi]
   have : x ∈ out.take p ++ l[i] :: out.drop p ↔ x ∈ out ∨ x = l[i] := by
     have e : x ∈ out ↔ x ∈ out.take p ∨ x ∈ out.drop p := by rw [← List.mem_append, List.take_append_drop]
     rw [List.mem_append, List.mem_cons, e]
     exact ⟨fun g => by rcases g with g | g | g <;> simp [g], fun g => by rcases g with (g | g) | g <;> simp [g]⟩
   rw [this, h.mem]
   refine ⟨fun g => ?_, fun g => ?_⟩
   · rcases g with ⟨g1, g2⟩ | rfl
     · exact ⟨.inl g1, g2⟩
     · exact ⟨.inr rfl, hu⟩
   · rcases g with ⟨g1 | rfl, g2⟩
     · exact .inl ⟨g1, g2⟩
     · exact .inr rfl
 len := by
   have := h.len
   rw [List.length_append, List.length_cons, List.length_take, List.length_drop]
   omega
 ok := z10y hi h.ok hp
theorem z18j {S X A : Type} (F : S → Option (S ⊕ X)) (n : Nat) (st : Nat → A → S) (I : Nat → A → Prop) (Q : X → Prop)
   (last : ∀ a, I n a → ∃ x, F (st n a) = some (.inr x) ∧ Q x)
   (step : ∀ i a, i < n → I i a → (∃ a', F (st i a) = some (.inl (st (i + 1) a')) ∧ I (i + 1) a') ∨ (∃ x, F (st i a) = some (.inr x) ∧ Q x)) {a : A} (h0 : I 0 a) : ∃ x, loopC F (st 0 a) = some x ∧ Q x := by
 have key : ∀ k i a, i + k = n → I i a → ∃ x, loopC F (st i a) = some x ∧ Q x := by
   intro k
   induction k with
   | zero =>
     intro i a h hI
     rw [show i = n by omega] at hI ⊢
     obtain ⟨x, h1, h2⟩ := last a hI
     exact ⟨x, by rw [z8c, h1]; rfl, h2⟩
   | succ k ih =>
     intro i a h hI
     rcases step i a (by omega) hI with ⟨a', h1, h2⟩ | ⟨x, h1, h2⟩
     · obtain ⟨x, h3, h4⟩ := ih (i + 1) a' (by omega) h2
       exact ⟨x, by rw [z8c, h1]; exact h3, h4⟩
     · exact ⟨x, by rw [z8c, h1]; rfl, h2⟩
 exact key n 0 a (by omega) h0
theorem z14j {l : List (List Int)} (h : Few l) : loopC z1m (l, [], 0) = some (if l.all pathI = true then .inl (zae l) else .inr ([], 20)) := by
 have hlen := h.len
 obtain ⟨x, hx, hq⟩ := z18j z1m l.length (fun i out => (l, out, (i : Int))) (Kept l) (fun x => x = (if l.all pathI = true then .inl (zae l) else .inr ([], 20)))
   (fun out hk => by
     refine ⟨.inl out, ?_, ?_⟩
     · unfold z1m z4w
       dsimp only
       rw [z0z (by omega), ltI_f (by omega)]; rfl
     · have hok := hk.ok
       rw [List.take_length] at hok
       rw [if_pos hok]
       congr 1
       refine zsr hk.inc (zsd h.bs) fun x => ?_
       rw [hk.mem, zbp h.bs, List.take_length])
   (fun i out hi hk => by
     have hmem := List.getElem_mem hi
     have hb := h.bs _ hmem
     have hs := h.short _ hmem
     have hkl := hk.len
     have hF : z1m (l, out, (i : Int)) = z4w l out (i : Int) := rfl
     cases hp : pathI l[i] with
     | false =>
       right
       refine ⟨.inr ([], 20), ?_, ?_⟩
       · rw [hF]
         unfold z4w
         rw [z0z (by omega), ltI_t (by omega), cond_true, z2k hi]
         simp only [Option.bind_some]
         rw [zo6 hb hs, hp]; rfl
       · have : l.all pathI = false := by
           rw [List.all_eq_false]
           exact ⟨_, hmem, by rw [hp]; simp⟩
         rw [this]; rfl
     | true =>
       left
       obtain ⟨p, p1, p2, p3, p4⟩ := z10s l out i hi (by omega) out.length (Nat.le_refl _) fun j hj hkj => by omega
       rw [hF]
       unfold z4w
       rw [z0z (by omega), ltI_t (by omega), cond_true, z2k hi]
       simp only [Option.bind_some]
       rw [zo6 hb hs, hp]
       simp only [Option.bind_some, Bool.not_true, cond_false]
       rw [z0z (by omega), p2]
       simp only [Option.bind_some]
       rw [z2k hi]
       simp only [Option.bind_some]
       rw [zsl h hb hs]
       simp only [Option.bind_some]
       cases hu : z0y l l[i] with
       | true =>
         refine ⟨out, ?_, zx4 hi hk hp (.inl hu)⟩
         rw [cond_true]
         simp only [Option.bind_some, Sum.elim_inr]
         rw [z3h (by omega)]
       | false =>
         rw [cond_false, z0z (by omega)]
         have put : Kept l (i + 1) (out.take p ++ l[i] :: out.drop p) → ∀ c d : Bool, ∃ a', (Sum.elim (fun y : ((List (List Int)) × (List (List Int)) × Int × Int × Int × (List (List Int)) × Int × Bool × Bool × Bool) =>
             (idxI y.1 y.2.2.1).bind fun x5 =>
             bif subOk y.2.2.2.1 (List.length y.2.1 : Nat) (List.length y.2.1) then
             appG (List.length ([x5] : List (List Int))) (List.length (subL y.2.1 y.2.2.2.1 (List.length y.2.1 : Nat))) 16 fun _ =>
             bif subOk 0 y.2.2.2.1 (List.length y.2.1) then
             appG (List.length ([] : List (List Int))) (List.length (subL y.2.1 0 y.2.2.2.1)) 16 fun _ =>
             bif Nat.beq (List.length (subL y.2.1 0 y.2.2.2.1)) (List.length (subL y.2.1 0 y.2.2.2.1)) then
             appG (List.length (subL y.2.1 0 y.2.2.2.1)) (List.length (([x5] : List (List Int)) ++ (subL y.2.1 y.2.2.2.1 (List.length y.2.1 : Nat)))) 16 fun _ =>
             winK ((subL y.2.1 0 y.2.2.2.1) ++ (([x5] : List (List Int)) ++ (subL y.2.1 y.2.2.2.1 (List.length y.2.1 : Nat)))) 0 (List.length ((subL y.2.1 0 y.2.2.2.1) ++ (([x5] : List (List Int)) ++ (subL y.2.1 y.2.2.2.1 (List.length y.2.1 : Nat))))) fun w =>
             some (.inl (y.1, w, W64 (y.2.2.1 + 1)))
             else none
             else none
             else none) (fun y2 : (List (List Int)) × (List (List Int)) × Int =>
             (some (.inl (y2.1, y2.2.1, W64 (y2.2.2 + 1))) : Option (z6n ⊕ z8s))) (Sum.inl (l, out, (i : Int), (p : Int), (p : Int), out, (out.length : Int), ltI (p : Int) (out.length : Int), c, d))) = some (.inl (l, a', ((i + 1 : Nat) : Int))) ∧ Kept l (i + 1) a' := by
           intro hkp c d
           refine ⟨_, ?_, hkp⟩
           simp only [Sum.elim_inl]
           have e1 : subL out 0 (p : Int) = out.take p := by simp [subL]
           have e2 : subL out (p : Int) (out.length : Int) = out.drop p := by
             simp [subL]
             exact List.take_of_length_le (by rw [List.length_drop]; omega)
           rw [z2k hi]
           simp only [Option.bind_some]
           rw [e1, e2, zjg (by omega), cond_true, zn2 (by simp; omega), zjg (by omega), cond_true, zn2 (by simp; omega), beq_self, cond_true, zn2 (by simp; omega), zt4, z3h (by omega)]
           rfl
         rcases Nat.lt_or_ge p out.length with hlt | hge
         · rw [ltI_t (by omega), cond_true, z2k hlt]
           simp only [Option.bind_some]
           by_cases e : out[p] = l[i]
           · refine ⟨out, ?_, zx4 hi hk hp (.inr (by rw [← e]; exact List.getElem_mem hlt))⟩
             rw [eqS_t e, cond_true]
             simp only [Option.bind_some, Sum.elim_inr]
             rw [z3h (by omega)]
           · rw [eqS_f e, cond_false]
             simp only [Option.bind_some]
             have := put (zzf hi hk hp hu p1 p3 p4 fun _ => e) true false
             rw [ltI_t (show (p : Int) < (out.length : Int) by omega)] at this
             exact this
         · rw [ltI_f (by omega), cond_false]
           simp only [Option.bind_some]
           have := put (zzf hi hk hp hu p1 p3 p4 fun hj => by omega) false false
           rw [ltI_f (show ¬ (p : Int) < (out.length : Int) by omega)] at this
           exact this)
   (a := []) ⟨List.Pairwise.nil, fun x => by simp, by simp, by simp⟩
 have hz : ((0 : Nat) : Int) = 0 := rfl
 rw [hz] at hx
 rw [hx, hq]
theorem z12n {l : List (List Int)} (h : Few l) : zgw l = some (z7z l) := by
 unfold zgw z7z
 rw [z14j h]
 simp only [Option.bind_some]
 have hfl := (zsk h).len
 cases hp : l.all pathI with
 | false => rfl
 | true =>
   simp only [if_true, Sum.elim_inl]
   rw [z0z (by omega)]
   unfold zae
   by_cases h8 : 8 < ((setL l).filter fun s => !z0y l s).length
   · rw [ltI_t (by omega), if_pos h8]; rfl
   · rw [ltI_f (by omega), if_neg h8]; rfl
end Go.Proofs.YtomgkgngbpnngaaGreatDoor
set_option maxRecDepth 100000
set_option linter.unusedVariables false
set_option linter.unusedSimpArgs false
namespace Go.Proofs.YtomgkgngbpnngaaGreatDoor
open Go.Tm Go.Ab Go.Lib
def badI (l : List (List Int)) (i : Nat) (s : List Int) : Bool := decide (0 < i) && !ltS (l[i - 1]?.getD []) s
def zbe (X : Type) (bad : Int → X) (l : List (List Int)) (i : Nat) (_ : Unit) (s : List Int) : Unit ⊕ X :=
 if pathI s = true then (if badI l i s = true then .inr (bad 7) else if z0y l s = true then .inr (bad 7) else .inl ()) else .inr (bad 20)
def zmb (l : List (List Int)) : Int := if 8 < l.length then 4 else scanE (zbe Int id l) (fun _ => 0) 0 l ()
theorem zsz (l : List (List Int)) : ∀ (m : List (List Int)) (i : Nat),
   Sum.elim (fun _ => (0 : Int)) (fun n => n) (scanE (zbe (Unit ⊕ Int) .inr l) (fun _ => .inl ()) i m ()) = scanE (zbe Int id l) (fun _ => 0) i m ()
 | [], i => rfl
 | s :: m, i => by
   rw [scanE, scanE]
   unfold zbe
   cases pathI s with
   | false => rfl
   | true =>
     cases badI l i s with
     | true => rfl
     | false =>
       cases z0y l s with
       | true => rfl
       | false => exact zsz l m (i + 1)
theorem z14l {m : List (List Int)} (hm : Few m) {x : List Int} (hx : Bs x) (hl : x.length ≤ 1000) (l t12 : List (List Int)) (t13 t14 : Int) :
   loopC z0c (l, x, t12, t13, t14, m, (List.length m : Int), 0) = some (if z0y m x = true then .inr 7 else .inl (l, t12, t13, t14)) := by
 have hloop : loopC z0c (l, x, t12, t13, t14, m, (List.length m : Int), ((0 : Nat) : Int)) =
     some (scanE (fun i (_ : Unit) t => if (!decide (t = x) && z1h x t) = true then .inr (.inr 7) else .inl ()) (fun _ => .inl (l, t12, t13, t14)) 0 m ()) := by
   refine zay _ m (fun i (_ : Unit) => (l, x, t12, t13, t14, m, (List.length m : Int), (i : Int))) _ _ (fun _ _ => True) (fun _ _ => ?_) (fun i hi _ _ => ?_) trivial
   · unfold z0c z2o
     dsimp only
     rw [ltI_f (by omega)]; rfl
   · unfold z0c z2o
     dsimp only
     have hlen := hm.len
     have hmem := List.getElem_mem hi
     rw [ltI_t (by omega), cond_true, z2k hi, z3h (by omega)]
     simp only [Option.bind_some]
     rw [zkw hx (hm.bs _ hmem) hl (hm.short _ hmem)]
     simp only [Option.bind_some]
     by_cases e : m[i] = x
     · left; exact ⟨(), by rw [decide_eq_true e]; rfl, trivial, by rw [eqS_t e]; rfl⟩
     · cases hw : z1h x m[i] with
       | false => left; exact ⟨(), by rw [decide_eq_false e]; rfl, trivial, by rw [eqS_f e]; rfl⟩
       | true => right; exact ⟨_, by rw [decide_eq_false e]; rfl, by rw [eqS_f e]; rfl⟩
 have hz : ((0 : Nat) : Int) = 0 := rfl
 rw [hz] at hloop
 unfold z0y
 rcases zel (fun t => !decide (t = x) && z1h x t) (fun _ _ => (Sum.inr 7 : z2q)) (.inl (l, t12, t13, t14)) m 0 with ⟨h1, h2⟩ | ⟨h1, j, t, _, h2⟩
 · rw [hloop, h2, h1]; rfl
 · rw [hloop, h2, h1]; rfl
theorem zzn {l : List (List Int)} (h : Few l) : zcv l = some (zmb l) := by
 have hlen := h.len
 unfold zcv zmb
 rw [z0z (by omega)]
 by_cases h8 : 8 < l.length
 · rw [ltI_t (by omega), if_pos h8]; rfl
 · rw [ltI_f (by omega), if_neg h8, cond_false, z0z (by omega)]
   have hloop : loopC z1p (l, l, (List.length l : Int), ((0 : Nat) : Int)) = some (scanE (zbe (Unit ⊕ Int) .inr l) (fun _ => .inl ()) 0 l ()) := by
     refine zay _ l (fun i (_ : Unit) => (l, l, (List.length l : Int), (i : Int))) _ _ (fun _ _ => True) (fun _ _ => ?_) (fun i hi _ _ => ?_) trivial
     · unfold z1p z8b
       dsimp only
       rw [ltI_f (by omega)]; rfl
     · unfold z1p z8b
       dsimp only
       have hmem := List.getElem_mem hi
       have hb := h.bs _ hmem
       have hs := h.short _ hmem
       rw [ltI_t (by omega), cond_true, z2k hi]
       simp only [Option.bind_some]
       rw [zgh hb hs]
       simp only [Option.bind_some]
       unfold zbe
       cases hp : pathI l[i] with
       | false =>
         right
         have h0 : ¬ (z1c l[i]).2 = 0 := by simpa [pathI] using hp
         have h20 : (z1c l[i]).2 = 20 := by rcases zxm l[i] with h | h; exact absurd h h0; exact h
         exact ⟨_, rfl, by rw [neI_t h0, h20]; rfl⟩
       | true =>
         have h0 : (z1c l[i]).2 = 0 := by simpa [pathI] using hp
         rw [neI_f h0, cond_false]
         have tail : ∀ b : Bool, b = badI l i l[i] →
             (∃ a', (if (true : Bool) = true then (if b = true then .inr (.inr 7) else if z0y l l[i] = true then .inr (.inr 7) else .inl ()) else .inr (.inr 20) : Unit ⊕ (Unit ⊕ Int)) = .inl a' ∧ True ∧
               ((bif b then (some (.inr 7) : Option (((List (List Int)) × (List Int) × (List (List Int)) × Int × Int) ⊕ (Int))) else some (.inl (l, l[i], l, (List.length l : Int), (i : Int)))).bind fun j =>
                 Sum.elim (fun y => z0f (List.length y.1) ((loopC z0c (y.1, y.2.1, y.2.2.1, y.2.2.2.1, y.2.2.2.2, y.1, (List.length y.1 : Nat), 0)).bind fun o =>
                   Sum.elim (fun y3 => some (.inl (y3.1, y3.2.1, y3.2.2.1, W64 (y3.2.2.2 + 1)))) (fun y4 => some (.inr (.inr y4))) o)) (fun y2 => some (.inr (.inr y2))) j) =
                 (some (.inl (l, l, (List.length l : Int), ((i + 1 : Nat) : Int))) : Option (z4i ⊕ z6g))) ∨
             (∃ x, (if (true : Bool) = true then (if b = true then .inr (.inr 7) else if z0y l l[i] = true then .inr (.inr 7) else .inl ()) else .inr (.inr 20) : Unit ⊕ (Unit ⊕ Int)) = .inr x ∧
               ((bif b then (some (.inr 7) : Option (((List (List Int)) × (List Int) × (List (List Int)) × Int × Int) ⊕ (Int))) else some (.inl (l, l[i], l, (List.length l : Int), (i : Int)))).bind fun j =>
                 Sum.elim (fun y => z0f (List.length y.1) ((loopC z0c (y.1, y.2.1, y.2.2.1, y.2.2.2.1, y.2.2.2.2, y.1, (List.length y.1 : Nat), 0)).bind fun o =>
                   Sum.elim (fun y3 => some (.inl (y3.1, y3.2.1, y3.2.2.1, W64 (y3.2.2.2 + 1)))) (fun y4 => some (.inr (.inr y4))) o)) (fun y2 => some (.inr (.inr y2))) j) =
                 (some (.inr x) : Option (z4i ⊕ z6g))) := by
           intro b _
           cases b with
           | true => right; exact ⟨_, rfl, rfl⟩
           | false =>
             simp only [cond_false, Option.bind_some, Sum.elim_inl]
             rw [z0z (by omega), z14l h hb hs]
             cases hu : z0y l l[i] with
             | true => right; exact ⟨_, rfl, rfl⟩
             | false =>
               left
               refine ⟨(), rfl, trivial, ?_⟩
               rw [← z3h (show i < 9223372036854775807 by omega)]
               rfl
         rcases Nat.eq_zero_or_pos i with hi0 | hi0
         · subst hi0
           have hbad : badI l 0 l[0] = false := rfl
           rw [ltI_f (by omega), cond_false, hbad]
           exact tail false hbad.symm
         · have e1 : W64 ((i : Int) - 1) = ((i - 1 : Nat) : Int) := by rw [z7o (by omega)]; omega
           have hbad : badI l i l[i] = !ltS l[i - 1] l[i] := by
             unfold badI
             rw [decide_eq_true hi0, List.getElem?_eq_getElem (show i - 1 < l.length by omega)]
             rfl
           rw [ltI_t (by omega), cond_true, e1, z2k (show i - 1 < l.length by omega), hbad]
           simp only [Option.bind_some]
           exact tail _ hbad.symm
   have hz : ((0 : Nat) : Int) = 0 := rfl
   rw [hz] at hloop
   rw [hloop]
   simp only [Option.bind_some]
   rw [← zsz]
   cases scanE (zbe (Unit ⊕ Int) .inr l) (fun _ => .inl ()) 0 l () <;> rfl
theorem z12j {l : List (List Int)} (h : Few l) : zgz l = some (zmb l) := by
 have hlen := h.len
 unfold zgz zmb
 rw [z0z (by omega)]
 by_cases h8 : 8 < l.length
 · rw [ltI_t (by omega), if_pos h8]; rfl
 · rw [ltI_f (by omega), if_neg h8, cond_false]
   have hloop : loopC z1r (l, ((0 : Nat) : Int)) = some (scanE (zbe (Unit ⊕ Int) .inr l) (fun _ => .inl ()) 0 l ()) := by
     refine zay _ l (fun i (_ : Unit) => (l, (i : Int))) _ _ (fun _ _ => True) (fun _ _ => ?_) (fun i hi _ _ => ?_) trivial
     · unfold z1r z8v
       dsimp only
       rw [z0z (by omega), ltI_f (by omega)]; rfl
     · unfold z1r z8v
       dsimp only
       have hmem := List.getElem_mem hi
       have hb := h.bs _ hmem
       have hs := h.short _ hmem
       rw [z0z (by omega), ltI_t (by omega), cond_true, z2k hi]
       simp only [Option.bind_some]
       rw [zo6 hb hs]
       simp only [Option.bind_some]
       unfold zbe
       cases hp : pathI l[i] with
       | false => right; exact ⟨_, rfl, rfl⟩
       | true =>
         simp only [Bool.not_true, cond_false]
         rw [zsl h hb hs, z3h (by omega)]
         simp only [Option.bind_some]
         rcases Nat.eq_zero_or_pos i with hi0 | hi0
         · subst hi0
           have hbad : badI l 0 l[0] = false := rfl
           rw [ltI_f (by omega), cond_false, hbad]
           cases hu : z0y l l[0] with
           | true => right; exact ⟨_, rfl, rfl⟩
           | false => left; exact ⟨(), rfl, trivial, rfl⟩
         · have e1 : W64 ((i : Int) - 1) = ((i - 1 : Nat) : Int) := by rw [z7o (by omega)]; omega
           have hbad : badI l i l[i] = !ltS l[i - 1] l[i] := by
             unfold badI
             rw [decide_eq_true hi0, List.getElem?_eq_getElem (show i - 1 < l.length by omega)]
             rfl
           rw [ltI_t (by omega), cond_true, e1, z2k (show i - 1 < l.length by omega), hbad]
           simp only [Option.bind_some]
           rw [z17p]
           cases hlt : ltS l[i - 1] l[i] with
           | false => right; exact ⟨_, rfl, rfl⟩
           | true =>
             cases hu : z0y l l[i] with
             | true => right; exact ⟨_, rfl, rfl⟩
             | false => left; exact ⟨(), rfl, trivial, rfl⟩
   have hz : ((0 : Nat) : Int) = 0 := rfl
   rw [hz] at hloop
   rw [hloop]
   simp only [Option.bind_some]
   rw [← zsz]
   cases scanE (zbe (Unit ⊕ Int) .inr l) (fun _ => .inl ()) 0 l () <;> rfl
theorem z13w {l : List (List Int)} (h1 : l.length ≤ 8) (h2 : l.all pathI = true) (h3 : Inc l) (h4 : ∀ s, s ∈ l → z0y l s = false) : zmb l = 0 := by
 unfold zmb
 rw [if_neg (by omega)]
 have key : ∀ (m pre : List (List Int)), l = pre ++ m → scanE (zbe Int id l) (fun _ => 0) pre.length m () = 0 := by
   intro m
   induction m with
   | nil => intro pre _; rfl
   | cons s m ih =>
     intro pre e
     have hs : s ∈ l := by rw [e]; simp
     rw [scanE]
     have hb : badI l pre.length s = false := by
       unfold badI
       rcases Nat.eq_zero_or_pos pre.length with h0 | h0
       · rw [h0]; rfl
       · have hlt : pre.length - 1 < l.length := by rw [e, List.length_append]; omega
         have hlt2 : pre.length < l.length := by rw [e, List.length_append, List.length_cons]; omega
         have e2 : l[pre.length] = s := by simp only [e]; rw [List.getElem_append_right (Nat.le_refl _)]; simp
         have := List.pairwise_iff_getElem.1 h3 (pre.length - 1) pre.length hlt hlt2 (by omega)
         rw [e2] at this
         rw [List.getElem?_eq_getElem hlt, Option.getD_some, this]
         simp
     unfold zbe
     rw [List.all_eq_true.1 h2 s hs, hb, h4 s hs]
     have := ih (pre ++ [s]) (by rw [e]; simp)
     rw [List.length_append, List.length_singleton] at this
     exact this
 exact key l [] rfl
theorem z12q (l : List (List Int)) (hb : ∀ s, s ∈ l → Bs s) (g1 : l.length ≤ maxLen) (g2 : ∀ s, s ∈ l → s.length ≤ maxLen) : zck l = some true := by
 unfold zck
 rw [z19h, z19l g1 g2]
 simp only [Option.bind_some, Bool.not_true, cond_false]
 cases h1 : zq8 l with
 | false => rfl
 | true =>
   simp only [Bool.not_true, cond_false]
   have hf := z1de hb h1
   have hlen := hf.len
   have hcl : (z7z l).1.length ≤ 1000000 := by
     rcases Decidable.em ((z7z l).2 = 0) with he | he
     · rw [(zsu he).1]; have := (zsu he).2.2; omega
     · rw [z17o he]; simp
   rw [zn2 (by simp; omega), List.nil_append, zzb hf, z12n hf]
   simp only [Option.bind_some]
   rw [z13a hcl hcl, z13a (by omega) (by omega), zzn hf, z12j hf]
   simp only [Option.bind_some, decide_true, Bool.not_true, cond_false]
   rw [neI_f rfl, neI_f rfl, cond_false, cond_false]
   rcases Decidable.em ((z7z l).2 = 0) with he | he
   · obtain ⟨e1, e2, e3⟩ := zsu he
     have hfc := zsk hf
     rw [neI_f he, cond_false, e1, zzn hfc, z13w e3 (List.all_eq_true.2 fun s hs => List.all_eq_true.1 e2 s ((zbp hb).1 hs).1) (zsd hb) fun s hs => ?_]
     · rfl
     · have hu := ((zbp hb).1 hs).2
       cases hc : z0y (zae l) s with
       | false => rfl
       | true =>
         obtain ⟨t, ht, hne, hw⟩ := zq7.1 hc
         rw [zq7.2 ⟨t, ((zbp hb).1 ht).1, hne, hw⟩] at hu
         cases hu
   · rw [neI_t he]; rfl
end Go.Proofs.YtomgkgngbpnngaaGreatDoor