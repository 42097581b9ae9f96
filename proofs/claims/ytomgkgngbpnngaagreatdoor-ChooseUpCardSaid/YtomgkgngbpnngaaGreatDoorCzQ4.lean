import Derived.Test.YtomgkgngbpnngaaGreatDoorCzJtoCzA4
set_option maxRecDepth 100000
set_option linter.unusedVariables false
set_option linter.unusedSimpArgs false
namespace Go.Proofs.YtomgkgngbpnngaaGreatDoor
open Go.Tm Go.Ab Go.Lib
theorem zz2 (l : List (List Int)) (i : Nat) (hi : i < l.length) : joinT (l.take (i + 1)) = joinT (l.take i) ++ 47 :: l[i] := by
 rw [List.take_succ_eq_append_getElem hi]
 unfold joinT
 rw [List.flatMap_append]
 simp
theorem zzg {l : List (List Int)} (h1 : l.length ≤ 40) (h2 : ∀ p, p ∈ l → p.length ≤ 200) : zfv l = some (joinI l) := by
 refine ok_is ?_
 unfold zfv
 refine z1t ?_
 refine zn6 l.length (fun i _ => (l, joinT (l.take i), (i : Int))) (fun i (_ : Unit) => True) () rfl trivial (fun _ _ => ?_) fun i _ hi _ => ?_
 · unfold z2c z8j
   dsimp only
   rw [List.take_length]
   repeat' first
     | (dsimp only [Int.toNat_natCast, List.length_nil])
     | with_reducible first | refine z2j ?_ | refine z2l ?_ | refine z1b ?_ | refine z2p ?_ | refine z1n ?_ | refine z3i ?_ | refine qs ?_ | refine qb ?_ | refine z3o ?_ | refine qw ?_ | refine z3p ?_ | refine z3l ?_ | refine qi ?_ | refine qg (h := ?_) | refine qx (h := ?_) | refine qy (h := ?_) | refine qa ?_ | refine qc ?_ | refine ql ?_ | refine qp ?_ | refine z1t ?_ | rfl
     | (with_reducible first | refine ok_lt ?_ ?_ | refine ok_le ?_ ?_ | refine z3k ?_ ?_ | refine z3n ?_ ?_ | refine z3q ?_ ?_ | refine qu ?_ ?_ | refine ok_if ?_ ?_) <;> intro _ <;> try (exfalso; omega)
   · rename_i h
     cases l with
     | nil => rfl
     | cons p l => rw [z9t] at h; cases h
   · rename_i h
     unfold joinI
     rw [if_neg]
     rintro rfl
     exact h rfl
 · unfold z2c z8j
   dsimp only
   have hT := z11h (l.take i) 200 fun q hq => h2 q (List.mem_of_mem_take hq)
   rw [List.length_take] at hT
   have hp := h2 l[i] (List.getElem_mem hi)
   have hT2 : (joinT (l.take i)).length ≤ 8040 := by
     have : min i l.length ≤ 40 := by omega
     calc (joinT (l.take i)).length ≤ min i l.length * (200 + 1) := hT
       _ ≤ 40 * 201 := Nat.mul_le_mul_right _ this
   repeat' first
     | (dsimp only [Int.toNat_natCast, List.length_nil])
     | with_reducible first | refine z2j ?_ | refine z2l ?_ | refine z1b ?_ | refine z2p ?_ | refine z1n ?_ | refine z3i ?_ | refine qs ?_ | refine qb ?_ | refine z3o ?_ | refine qw ?_ | refine z3p ?_ | refine z3l ?_ | refine qi ?_ | refine qg (h := ?_) | refine qx (h := ?_) | refine qy (h := ?_) | refine qa ?_ | refine qc ?_ | refine ql ?_ | refine qp ?_ | refine z1t ?_ | rfl
     | (with_reducible first | refine ok_lt ?_ ?_ | refine ok_le ?_ ?_ | refine z3k ?_ ?_ | refine z3n ?_ ?_ | refine z3q ?_ ?_ | refine qu ?_ ?_ | refine ok_if ?_ ?_) <;> intro _ <;> try (exfalso; omega)
   exact ⟨(), by rw [z5o (by omega), zz2 l i hi]; rfl, trivial⟩
theorem zkt {s : List Int} (h : pathI s = true) : (z0d s).1.length ≤ 10 ∧ (∀ p, p ∈ (z0d s).1 → partI p = true) ∧ s.length ≤ 120 := by
 unfold pathI at h
 rw [decide_eq_true_eq] at h
 unfold z0d at h ⊢
 split at h
 · cases h
 · rename_i h0
   rw [if_neg h0]
   have hl : s.length ≤ 120 := by
     rcases Nat.lt_or_ge 120 s.length with h | h
     · exact absurd (.inl h) h0
     · exact h
   split at h
   · rename_i h1
     rw [if_pos h1]
     exact ⟨by simp, fun p hp => by simp at hp, hl⟩
   · rename_i h1
     rw [if_neg h1]
     split at h
     · cases h
     · rename_i h2
       rw [if_neg h2]
       rw [not_or] at h2
       refine ⟨by dsimp only; omega, ?_, hl⟩
       have : (z1e 47 s.tail).all partI = true := by
         cases h3 : (z1e 47 s.tail).all partI with
         | true => rfl
         | false => exact absurd h3 h2.2
       exact List.all_eq_true.1 this
theorem z11t {A B : List (List Int)} (h : A <+: B) : (joinT A).length ≤ (joinT B).length := by
 obtain ⟨C, rfl⟩ := h
 unfold joinT
 rw [List.flatMap_append, List.length_append]
 omega
theorem zug {s : List Int} (h : pathI s = true) (k : Nat) : z0d (joinI ((z0d s).1.take k)) = ((z0d s).1.take k, 0) := by
 obtain ⟨h1, h2, h3⟩ := zkt h
 have hs : s = joinI (z0d s).1 := zpw (by simpa [pathI] using h)
 refine zyt (by rw [List.length_take]; omega) ?_ fun p hp => h2 p (List.mem_of_mem_take hp)
 unfold joinI
 split
 · simp
 · rename_i hne
   have hne2 : (z0d s).1 ≠ [] := fun e => hne (by rw [e]; simp)
   have e2 : s = joinT (z0d s).1 := by unfold joinI at hs; rw [if_neg hne2] at hs; exact hs
   have := z11t (List.take_prefix k (z0d s).1)
   have e3 := congrArg List.length e2
   omega
theorem zwx {l : List (List Int)} {a : List Int} (h : zf7 l a = true) (hp : pathI a = true) (k : Nat) : zf7 l (joinI ((z0d a).1.take k)) = true := by
 have hab := zug hp k
 have hpa : pathI (joinI ((z0d a).1.take k)) = true := by unfold pathI; rw [hab]; rfl
 have hpre : (z0d (joinI ((z0d a).1.take k))).1 <+: (z0d a).1 := by rw [hab]; exact List.take_prefix _ _
 unfold zf7 hasI at *
 simp only [Bool.or_eq_true, List.any_eq_true] at *
 rcases h with (h | ⟨x, hx, h⟩) | ⟨x, hx, h⟩
 · exact .inl (.inl h)
 · have h' := z5q.1 h
   rcases z11a hpre h'.2.2 with h1 | h1
   · exact .inr ⟨x, hx, z5q.2 ⟨h'.2.1, hpa, h1⟩⟩
   · exact .inl (.inr ⟨x, hx, z5q.2 ⟨hpa, h'.2.1, h1⟩⟩)
 · have h' := z5q.1 h
   exact .inr ⟨x, hx, z5q.2 ⟨h'.1, hpa, hpre.trans h'.2.2⟩⟩
theorem z16f (l : List (List Int)) (a : List Int) (hb : ∀ s, s ∈ l → Bs s) (ha : Bs a) (g1 : l.length ≤ maxLen) (g2 : ∀ s, s ∈ l → s.length ≤ maxLen) (g3 : a.length ≤ maxLen) : ze1 l a = some true := by
 unfold ze1
 have hs : za6 [a] = some (zex [a]) := zuo (by unfold maxLen; simp) fun x hx => by
   simp at hx; subst hx; exact g3
 rw [z13t, zuo g1 g2, hs]
 simp only [Option.bind_some, Bool.not_true, cond_false]
 cases h1 : zex l with
 | false => rfl
 | true =>
   simp only [Bool.not_true, cond_false]
   cases h2 : zex [a] with
   | false => rfl
   | true =>
     simp only [Bool.not_true, cond_false]
     have hf := z18v hb h1
     have hlen := hf.len
     unfold zex at h2
     simp only [List.all_cons, List.all_nil, Bool.and_true, Bool.and_eq_true, decide_eq_true_eq] at h2
     obtain ⟨_, ha2⟩ := h2
     rw [zpp hf ha (by omega)]
     simp only [Option.bind_some]
     cases hl : zf7 l a with
     | false => rfl
     | true =>
       simp only [Bool.not_true, cond_false]
       rw [zxm ha (by omega)]
       simp only [Option.bind_some]
       cases hp : pathI a with
       | false =>
         have h0 : ¬ (z0d a).2 = 0 := by simpa [pathI] using hp
         rw [neI_t h0, cond_true, z3m (by omega)]
         cases l with
         | nil => rfl
         | cons x l =>
           exfalso
           unfold zf7 hasI at hl
           simp only [Bool.or_eq_true, List.any_eq_true] at hl
           rcases hl with (h | ⟨x, hx, h⟩) | ⟨x, hx, h⟩
           · cases h
           · rw [(z5q.1 h).1] at hp; cases hp
           · rw [(z5q.1 h).2.1] at hp; cases hp
       | true =>
         have h0 : (z0d a).2 = 0 := by simpa [pathI] using hp
         obtain ⟨q1, q2, q3⟩ := zkt hp
         rw [neI_f h0, cond_false, z3m (by omega)]
         have hpb : ∀ p, p ∈ (z0d a).1 → Bs p ∧ p.length ≤ a.length := by
           rcases zz7 hp with ⟨_, e⟩ | ⟨_, _, e⟩
           · rw [e]; intro p hp; simp at hp
           · rw [e]
             intro p hpm
             have := zn5 47 a.tail.length a.tail (Nat.le_refl _) (fun x hx => ha x (List.mem_of_mem_tail hx)) p hpm
             exact ⟨this.1, by have := this.2; simp at this; omega⟩
         have hloop : loopC z0o (l, (z0d a).1, ((z0d a).1.length : Int), ((0 : Nat) : Int)) = some (scanE (fun _ (_ : Unit) _ => .inl ()) (fun _ => .inl ()) 0 (z0d a).1 ()) := by
           refine zfg _ (z0d a).1 (fun i (_ : Unit) => (l, (z0d a).1, ((z0d a).1.length : Int), (i : Int))) _ _ (fun _ _ => True) (fun _ _ => ?_) (fun i hi _ _ => ?_) trivial
           · unfold z0o z5d
             dsimp only
             rw [ltI_f (by omega)]; rfl
           · left
             refine ⟨(), rfl, trivial, ?_⟩
             unfold z0o z5d
             dsimp only
             have es : subL (z0d a).1 0 (i : Int) = (z0d a).1.take i := by simp [subL]
             rw [ltI_t (by omega), cond_true, ziz (by omega), cond_true, es, zzg (by rw [List.length_take]; omega) fun p hpm => by
               have := (hpb p (List.mem_of_mem_take hpm)).2; omega]
             simp only [Option.bind_some]
             have hjb : Bs (joinI ((z0d a).1.take i)) := by
               unfold joinI
               split
               · unfold Bs; decide
               · intro x hx
                 unfold joinT at hx
                 rw [List.mem_flatMap] at hx
                 obtain ⟨p, hpm, hx⟩ := hx
                 rcases List.mem_cons.1 hx with rfl | hx
                 · omega
                 · exact (hpb p (List.mem_of_mem_take hpm)).1 x hx
             have hjl : (joinI ((z0d a).1.take i)).length ≤ 1000 := by
               have hpa : pathI (joinI ((z0d a).1.take i)) = true := by unfold pathI; rw [zug hp i]; rfl
               have := (zkt hpa).2.2
               omega
             rw [zpp hf hjb hjl, zwx hl hp i, z5o (by omega)]
             rfl
         have hz : ((0 : Nat) : Int) = 0 := rfl
         rw [hz] at hloop
         rw [hloop]
         have hsc : ∀ (m : List (List Int)) (i : Nat), scanE (fun _ (_ : Unit) (_ : List Int) => (.inl () : Unit ⊕ z5b)) (fun _ => .inl ()) i m () = .inl () := by
           intro m
           induction m with
           | nil => intro i; rfl
           | cons x m ih => intro i; rw [scanE]; exact ih (i + 1)
         rw [hsc]
         rfl
end Go.Proofs.YtomgkgngbpnngaaGreatDoor