import Derived.Test.YtomgkgngbpnngaaGreatDoorCzJtoCzA3
set_option maxRecDepth 100000
set_option linter.unusedVariables false
set_option linter.unusedSimpArgs false
namespace Go.Proofs.YtomgkgngbpnngaaGreatDoor
open Go.Tm Go.Ab Go.Lib
theorem zyh (l : List (List Int)) (a p : List Int) (hb : ∀ s, s ∈ l → Bs s) (ha : Bs a) (hp : Bs p) (g1 : l.length ≤ maxLen) (g2 : ∀ s, s ∈ l → s.length ≤ maxLen) (g3 : a.length ≤ maxLen) (g4 : p.length ≤ maxLen) : zb5 l a p = some true := by
 unfold zb5
 have hs : z9t [a, p] = some (zel [a, p]) := zvh (by unfold maxLen; simp) fun x hx => by
   rcases List.mem_cons.1 hx with rfl | hx
   · exact g3
   · simp at hx; subst hx; exact g4
 rw [z14z, zvh g1 g2, hs]
 simp only [Option.bind_some, Bool.not_true, cond_false]
 cases h1 : zel l with
 | false => rfl
 | true =>
   simp only [Bool.not_true, cond_false]
   cases h2 : zel [a, p] with
   | false => rfl
   | true =>
     simp only [Bool.not_true, cond_false]
     have hf := z17j hb h1
     unfold zel at h2
     simp only [List.all_cons, List.all_nil, Bool.and_true, Bool.and_eq_true, decide_eq_true_eq] at h2
     obtain ⟨_, ha2, hp2⟩ := h2
     rw [zu8 hf]
     simp only [Option.bind_some]
     rcases Decidable.em ((zaj l).2 = 0) with he | he
     · obtain ⟨e1, e2, e3⟩ := z14n he
       have hfc := zxb hf
       rw [neI_f he, cond_false, e1, zm2 hfc ha (by omega), zm2 hf ha (by omega), zpj hfc ha (by omega), zpj hf ha (by omega), zub hb e2, zzh hb e2]
       simp only [Option.bind_some, beq_self_eq_true, Bool.not_true, cond_false]
       cases hh : hasI l a with
       | false => rfl
       | true =>
         simp only [Bool.not_true, cond_false]
         have e : (a ++ ([47] : List Int)) ++ p = a ++ 47 :: p := by simp
         have hlen : (a ++ 47 :: p).length ≤ 1000 := by simp; omega
         have hbs : Bs (a ++ 47 :: p) := fun x hx => by
           rcases List.mem_append.1 hx with hx | hx
           · exact ha x hx
           · rcases List.mem_cons.1 hx with rfl | hx
             · omega
             · exact hp x hx
         rw [zn3 (by simp; omega), zn3 (by simp; omega), zn3 (by simp; omega), zn3 (by simp; omega), e, zzk hbs hlen, zm2 hf hbs hlen]
         simp only [Option.bind_some]
         cases hpp : pathI (a ++ 47 :: p) with
         | false => rfl
         | true => rw [z12i hh hpp]; rfl
     · rw [neI_t he, cond_true, z11b he]; rfl
end Go.Proofs.YtomgkgngbpnngaaGreatDoor