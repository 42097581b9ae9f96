import Derived.Test.YtpfjfldagldgnaaJrDtoJrN
set_option linter.unusedVariables false
set_option linter.unusedSimpArgs false
namespace Go.Proofs.Ytpfjfldagldgnaa
open Go.Tm Go.Ab
def nowD (x : DevT) (i : Nat) : List Int := nowS x.1 (i : Int) ((x.2.2.2.2.2[i]?).getD [])
theorem z1ou {x : DevT} (ho : x.2.2.2.2.1 = false) {i : Nat} (hi : i < x.2.2.2.2.2.length) : readD x (i : Int) = (0, nowD x i) := by
 unfold readD
 have : whyS x.2.2.2.2.1 x.2.2.2.2.2.length (i : Int) = 0 := by unfold whyS; rw [ho, if_neg (by simp), if_pos (by omega)]
 rw [if_neg (by rw [this]; simp)]; rfl
theorem z1h8 {k : Nat} {x : DevT} (h : Dv k x) (ho : x.2.2.2.2.1 = false) {i : Nat} (hi : i < x.2.2.2.2.2.length) :
   z8l (i : Int) x.1 x.2.1 x.2.2.1 x.2.2.2.1 x.2.2.2.2.1 x.2.2.2.2.2 = some (0, x.1, x.2.1, x.2.2.1, x.2.2.2.1, x.2.2.2.2.1, nowD x i, x.2.2.2.2.2) := by
 have := z1rt (i : Int) x.1 x.2.1 x.2.2.1 x.2.2.2.1 x.2.2.2.2.1 x.2.2.2.2.2 h.ok
 rw [show ((x.1, x.2.1, x.2.2.1, x.2.2.2.1, x.2.2.2.2.1, x.2.2.2.2.2) : DevT) = x from rfl, z1ou ho hi] at this
 exact this
theorem z1av {k : Nat} {x : DevT} (h : Dv k x) {i : Nat} (hi : i < x.2.2.2.2.2.length) : (nowD x i).length = 256 := by
 unfold nowD
 rw [List.getElem?_eq_getElem hi, Option.getD_some]
 exact z1aj _ _ _ (fun w hw => (h.ok.d.w w hw).2.2) (h.ok.d.s _ (List.getElem_mem hi))
theorem z1ik : ∀ (l : List (Int × List Int)) (i : Int) (y : List Int), (∀ w, w ∈ l → isB w.2) → isB y → isB (nowS l i y)
 | [], _, _, _, h => h
 | w :: ws, i, y, hw, h => by
   simp only [nowS]
   refine z1ik ws i _ (fun v hv => hw v (by simp [hv])) ?_
   split
   · exact hw w (by simp)
   · exact h
theorem z1ox {k : Nat} {x : DevT} (h : Dv k x) {i : Nat} (hi : i < x.2.2.2.2.2.length) : isB (nowD x i) := by
 unfold nowD
 rw [List.getElem?_eq_getElem hi, Option.getD_some]
 exact z1ik _ _ _ h.bw (h.bs _ (List.getElem_mem hi))
def zq3 (a b : Int × Int × Int) : Int × Int × Int := if a.1 < b.1 then b else a
def pickT (x : DevT) : Int × Int × Int := zq3 (zq3 (0, 0, 0) (zb4 (nowD x 0) (roomS x.2.2.2.2.2.length))) (zb4 (nowD x 1) (roomS x.2.2.2.2.2.length))
theorem z1fr {k : Nat} {x : DevT} (h : Dv k x) (ho : x.2.2.2.2.1 = false) (hx : 6 ≤ x.2.2.2.2.2.length ∧ x.2.2.2.2.2.length ≤ 5000) :
   loopC z1v (roomS x.2.2.2.2.2.length, 0, x.1, x.2.1, x.2.2.1, x.2.2.2.1, x.2.2.2.2.1, (0, 0, 0), 0, false, x.2.2.2.2.2, ([] : List Int)) =
     some (.inl (x.1, x.2.1, x.2.2.1, x.2.2.2.1, x.2.2.2.2.1, pickT x, 0, false, x.2.2.2.2.2, [])) := by
 have hr : 0 ≤ roomS x.2.2.2.2.2.length ∧ roomS x.2.2.2.2.2.length ≤ 1000000000 := by unfold roomS secS; omega
 have step : ∀ (i : Nat) (j : Int × Int × Int), i < 2 → z1v (roomS x.2.2.2.2.2.length, (i : Int), x.1, x.2.1, x.2.2.1, x.2.2.2.1, x.2.2.2.2.1, j, 0, false, x.2.2.2.2.2, ([] : List Int)) =
     some (.inl (roomS x.2.2.2.2.2.length, ((i + 1 : Nat) : Int), x.1, x.2.1, x.2.2.1, x.2.2.2.1, x.2.2.2.2.1, zq3 j (zb4 (nowD x i) (roomS x.2.2.2.2.2.length)), 0, false, x.2.2.2.2.2, [])) := fun i j hi => by
   show z4u _ (i : Int) x.1 x.2.1 x.2.2.1 x.2.2.2.1 x.2.2.2.2.1 j 0 false x.2.2.2.2.2 [] = _
   unfold z4u
   rw [ltI_t (by omega)]
   simp only [cond_true, beq_self]
   rw [z1h8 h ho (by omega)]
   simp only [Option.bind_some, z2t]
   rw [neI_f rfl, z1q2 (z1av h (by omega)) (z1ox h (by omega)) hr]
   simp only [cond_false, Option.bind_some]
   unfold zq3
   by_cases hlt : j.1 < (zb4 (nowD x i) (roomS x.2.2.2.2.2.length)).1
   · rw [ltI_t hlt, if_pos hlt, zbf (by omega)]; rfl
   · rw [ltI_f hlt, if_neg hlt, zbf (by omega)]; rfl
 rw [z2i]
 have s0 := step 0 (0, 0, 0) (by omega)
 rw [show (((0 : Nat) : Int)) = 0 from rfl] at s0
 rw [s0]
 simp only [Option.bind_some, Sum.elim_inl]
 rw [z2i, step 1 _ (by omega)]
 simp only [Option.bind_some, Sum.elim_inl]
 rw [z2i]
 show (z4u _ (2 : Int) x.1 x.2.1 x.2.2.1 x.2.2.2.1 x.2.2.2.2.1 _ 0 false x.2.2.2.2.2 []).bind _ = _
 unfold z4u
 rw [ltI_f (by omega)]
 simp only [cond_false, beq_self, cond_true, Option.bind_some, Sum.elim_inr]
 rfl
def dataD (x : DevT) (side : Int) (n : Nat) : List Int := ((List.range n).map fun i => nowD x ((baseS x.2.2.2.2.2.length side).toNat + i)).flatten
theorem z13v (x : DevT) (side : Int) (n : Nat) : dataD x side (n + 1) = dataD x side n ++ nowD x ((baseS x.2.2.2.2.2.length side).toNat + n) := by
 unfold dataD; rw [List.range_succ]; simp
theorem z1eg {n : Nat} (hx : 6 ≤ n ∧ n ≤ 5000) {side : Int} (hs : 0 ≤ side ∧ side ≤ 1) {i : Nat} (hi : (i : Int) < secS n) : 0 ≤ baseS n side ∧ (baseS n side).toNat + i < n := by
 unfold baseS
 unfold secS at *
 rcases (show side = 0 ∨ side = 1 by omega) with rfl | rfl
 · rw [Int.zero_mul]; omega
 · rw [Int.one_mul]; omega
theorem zzf {k : Nat} {x : DevT} (h : Dv k x) (hx : 6 ≤ x.2.2.2.2.2.length ∧ x.2.2.2.2.2.length ≤ 5000) {side : Int} (hs : 0 ≤ side ∧ side ≤ 1) : ∀ (n : Nat), (n : Int) ≤ secS x.2.2.2.2.2.length → (dataD x side n).length = n * 256
 | 0, _ => rfl
 | n + 1, hn => by
   rw [z13v, List.length_append, zzf h hx hs n (by omega), z1av h (z1eg hx hs (by omega)).2]; omega
theorem z1fd {k : Nat} {x : DevT} (h : Dv k x) (ho : x.2.2.2.2.1 = false) (hx : 6 ≤ x.2.2.2.2.2.length ∧ x.2.2.2.2.2.length ≤ 5000) {t : Int × Int × Int} (ht : OkT t (roomS x.2.2.2.2.2.length)) :
   ∀ (n i : Nat), i + n = clS t.2.2.toNat →
   loopC z2c ((i : Int), x.1, x.2.1, x.2.2.1, x.2.2.2.1, x.2.2.2.2.1, t, 0, false, x.2.2.2.2.2, dataD x t.2.1 i) =
     some (.inl (x.1, x.2.1, x.2.2.1, x.2.2.2.1, x.2.2.2.2.1, t, 0, false, x.2.2.2.2.2, dataD x t.2.1 (clS t.2.2.toNat)))
 | 0, i, hi => by
   have hi' := hi
   unfold clS at hi'
   obtain ⟨t1, t2, t3, t4, t5, t6, t7⟩ := ht
   have hroom : roomS x.2.2.2.2.2.length ≤ 1000000 := by unfold roomS secS; omega
   rw [z2i]
   show (z3b (i : Int) x.1 x.2.1 x.2.2.1 x.2.2.2.1 x.2.2.2.2.1 t 0 false x.2.2.2.2.2 (dataD x t.2.1 i)).bind _ = _
   unfold z3b
   rw [z1t (by omega), ltI_f (by omega)]
   simp only [cond_false, beq_self, cond_true, Option.bind_some, Sum.elim_inr]
   rw [show i = clS t.2.2.toNat by omega]
 | n + 1, i, hi => by
   have hi' := hi
   unfold clS at hi'
   have ht' := ht
   obtain ⟨t1, t2, t3, t4, t5, t6, t7⟩ := ht'
   have hroom : roomS x.2.2.2.2.2.length ≤ 1000000 := by unfold roomS secS; omega
   have hsec : (i : Int) < secS x.2.2.2.2.2.length := by unfold roomS at t6; omega
   have hlen := zzf h hx ⟨t3, t4⟩ i (by omega)
   obtain ⟨b1, b2⟩ := z1eg hx ⟨t3, t4⟩ hsec
   rw [z2i]
   show (z3b (i : Int) x.1 x.2.1 x.2.2.1 x.2.2.2.1 x.2.2.2.2.1 t 0 false x.2.2.2.2.2 (dataD x t.2.1 i)).bind _ = _
   unfold z3b
   rw [z1t (by omega), ltI_t (by omega)]
   simp only [cond_true, z2t]
   rw [at_is _ _ _ _ _ _ _ _ _ _ _ _ (by omega) ⟨t3, t4⟩ (by omega)]
   simp only [Option.bind_some, beq_self, cond_true]
   rw [show baseS x.2.2.2.2.2.length t.2.1 + (i : Int) = (((baseS x.2.2.2.2.2.length t.2.1).toNat + i : Nat) : Int) by omega, z1h8 h ho b2]
   simp only [Option.bind_some, z2t]
   rw [neI_f rfl, z8f (by rw [hlen, z1av h b2]; omega)]
   simp only [cond_false, Option.bind_some, beq_self, cond_true, Sum.elim_inl]
   rw [zbf (by omega), ← z13v]
   exact z1fd h ho hx ht n (i + 1) (by omega)
theorem z1kq {k : Nat} {x : DevT} (h : Dv k x) (ho : x.2.2.2.2.1 = false) (hx : 6 ≤ x.2.2.2.2.2.length ∧ x.2.2.2.2.2.length ≤ 5000) {t : Int × Int × Int} (hp : pickT x = t) (ht : OkT t (roomS x.2.2.2.2.2.length)) {l : List (List Int)}
   (hl : ∀ y, y ∈ l → isB y ∧ y.length ≤ 65531) (hd : (dataD x t.2.1 (clS t.2.2.toNat)).take t.2.2.toNat = lieS l) :
   z2u x.1 x.2.1 x.2.2.1 x.2.2.2.1 x.2.2.2.2.1 x.2.2.2.2.2 = some (.inr (0, x.1, x.2.1, x.2.2.1, x.2.2.2.1, x.2.2.2.2.1, t, lieS l, (l.length : Int), false, l, x.2.2.2.2.2)) := by
 have hroom : roomS x.2.2.2.2.2.length ≤ 640000 := by unfold roomS secS; omega
 have hr0 : secS x.2.2.2.2.2.length * 256 = roomS x.2.2.2.2.2.length := rfl
 have hsec : 0 ≤ secS x.2.2.2.2.2.length ∧ secS x.2.2.2.2.2.length ≤ 2500 := by unfold secS; omega
 have ht' := ht
 obtain ⟨t1, t2, t3, t4, t5, t6, t7⟩ := ht'
 unfold z2u z8h
 simp only [z2t]
 rw [z0p (by omega)]
 simp only [Option.bind_some]
 rw [ltI_f (by omega), zhu _ _ _ _ _ _ (by omega)]
 simp only [cond_false, Option.bind_some, beq_self, cond_true]
 rw [z1t (by omega), hr0, show Nat.beq 0 (List.length ([] : List Int)) = true from rfl, z1fr h ho hx, hp]
 simp only [cond_true, Option.bind_some, Sum.elim_inl]
 rw [eqI_f (by omega)]
 have hL := z1fd h ho hx ht (clS t.2.2.toNat) 0 (by omega)
 rw [show dataD x t.2.1 0 = [] from rfl, show (((0 : Nat) : Int)) = 0 from rfl] at hL
 simp only [cond_false]
 rw [hL]
 simp only [Option.bind_some, Sum.elim_inl]
 have hcl : (clS t.2.2.toNat : Int) ≤ secS x.2.2.2.2.2.length := by unfold clS; unfold roomS at t6; omega
 have hlen := zzf h hx ⟨t3, t4⟩ (clS t.2.2.toNat) hcl
 have hle : t.2.2.toNat ≤ (dataD x t.2.1 (clS t.2.2.toNat)).length := by rw [hlen]; unfold clS; omega
 have hll : (lieS l).length = t.2.2.toNat := by rw [← hd, List.length_take]; omega
 have hc := zz0 l
 rw [zi4 (by omega), eqI_t rfl, z1qn hd hle hl (by omega)]
 simp only [Bool.and_self, cond_true, Option.bind_some]
 rw [neI_f rfl, z0p (by omega), z1o4 _ _ _ (by omega)]
 simp only [cond_false, List.drop_zero, hd, beq_self, cond_true]
theorem z1kn {k : Nat} {x : DevT} (h : Dv k x) (hk : k + 2 ≤ 100000) (ho : x.2.2.2.2.1 = false) (hx : 6 ≤ x.2.2.2.2.2.length ∧ x.2.2.2.2.2.length ≤ 5000) (hp : (pickT x).1 = 0) (he : (tellD x (1, 0, 0)).1 = 0) :
   z2u x.1 x.2.1 x.2.2.1 x.2.2.2.1 x.2.2.2.2.1 x.2.2.2.2.2 =
     some (.inr (0, (tellD x (1, 0, 0)).2.1, (tellD x (1, 0, 0)).2.2.1, (tellD x (1, 0, 0)).2.2.2.1, (tellD x (1, 0, 0)).2.2.2.2.1, (tellD x (1, 0, 0)).2.2.2.2.2.1, (1, 0, 0), [], 0, false, [], (tellD x (1, 0, 0)).2.2.2.2.2.2)) := by
 have hr0 : secS x.2.2.2.2.2.length * 256 = roomS x.2.2.2.2.2.length := rfl
 have hsec : 0 ≤ secS x.2.2.2.2.2.length ∧ secS x.2.2.2.2.2.length ≤ 2500 := by unfold secS; omega
 unfold z2u z8h
 simp only [z2t]
 rw [z0p (by omega)]
 simp only [Option.bind_some]
 rw [ltI_f (by omega), zhu _ _ _ _ _ _ (by omega)]
 simp only [cond_false, Option.bind_some, beq_self, cond_true]
 rw [z1t (by omega), hr0, show Nat.beq 0 (List.length ([] : List Int)) = true from rfl, z1fr h ho hx]
 simp only [cond_true, Option.bind_some, Sum.elim_inl]
 rw [eqI_t hp]
 have := z1oy h hk (t := (1, 0, 0)) (by decide) (by decide) (by decide) (pickT x, [], 0, false)
 simp only [cond_true]
 rw [this]
 simp only [Option.bind_some]
 rw [neI_f he]
 unfold toldJ
 rw [if_pos he]
 rfl
end Go.Proofs.Ytpfjfldagldgnaa
set_option linter.unusedVariables false
set_option linter.unusedSimpArgs false
namespace Go.Proofs.Ytpfjfldagldgnaa
open Go.Tm Go.Ab
theorem z1da (L : List (Int × List Int)) (left : Int) (c : List Int × Int × Int) (nn : Int) (s : List (List Int)) (h : -1 ≤ left) :
   (∃ left', z4m (L, left, c, nn, false, s) = (0, (L, left', c, nn + 1, false, s)) ∧ -1 ≤ left' ∧ left' ≤ left ∧ (left < 0 → left' = left)) ∨
   (0 ≤ left ∧ z4m (L, left, c, nn, false, s) = (6, ([], -1, c, nn + 1, true, cutS c L 0 s))) := by
 unfold z4m
 by_cases h1 : left < 0
 · exact .inl ⟨left, if_pos h1, h, Int.le_refl _, fun _ => rfl⟩
 · by_cases h2 : left = 0
   · refine .inr ⟨by omega, ?_⟩
     simp only
     rw [if_neg h1, if_pos h2]; rfl
   · refine .inl ⟨left - 1, ?_, by omega, by omega, fun h => absurd h h1⟩
     simp only
     rw [if_neg h1, if_neg h2]
theorem z1s6 {n : Nat} {i : Int} (h : 0 ≤ i ∧ i < n) : whyS false n i = 0 := by unfold whyS; rw [if_neg (by simp), if_pos h]
theorem z1er (L : List (Int × List Int)) (left : Int) (c : List Int × Int × Int) (nn : Int) (s : List (List Int)) (h : -1 ≤ left) {i : Int} (hi : 0 ≤ i ∧ i < s.length) {b : List Int} (hb : b.length = 256) :
   (∃ left', z2w (L, left, c, nn, false, s) i b = (0, (L ++ [(i, b)], left', c, nn + 1, false, s)) ∧ -1 ≤ left' ∧ left' ≤ left ∧ (left < 0 → left' = left)) ∨
   (0 ≤ left ∧ z2w (L, left, c, nn, false, s) i b = (6, ([], -1, c, nn + 1, true, cutS c (L ++ [(i, b)]) 0 s))) := by
 have e : z2w (L, left, c, nn, false, s) i b = z4m (L ++ [(i, b)], left, c, nn, false, s) := by
   unfold z2w
   simp only
   rw [z1s6 hi, if_neg (by simp), if_neg (by simp [hb])]
 rw [e]
 exact z1da _ _ _ _ _ h
theorem z19z (L : List (Int × List Int)) (left : Int) (c : List Int × Int × Int) (nn : Int) (s : List (List Int)) (h : -1 ≤ left) :
   (∃ left', z7g (L, left, c, nn, false, s) = (0, ([], left', c, nn + 1, false, sureS L s)) ∧ -1 ≤ left' ∧ left' ≤ left ∧ (left < 0 → left' = left)) ∨
   (0 ≤ left ∧ z7g (L, left, c, nn, false, s) = (6, ([], -1, c, nn + 1, true, cutS c L 0 s))) := by
 unfold z7g
 rcases z1da L left c nn s h with ⟨left', e, h1⟩ | ⟨h1, e⟩
 · refine .inl ⟨left', ?_, h1⟩
   rw [e]; rfl
 · refine .inr ⟨h1, ?_⟩
   rw [e]; rfl
def blocks (base : Int) (all : List Int) : Nat → Nat → List (Int × List Int)
 | 0, _ => []
 | n + 1, i => (base + (i : Int), blkS all i) :: blocks base all n (i + 1)
theorem z1hk {base : Int} {all : List Int} {c : List Int × Int × Int} {s : List (List Int)} : ∀ (n i : Nat) (L : List (Int × List Int)) (left nn : Int), -1 ≤ left → (0 ≤ base + (i : Int)) → (base + (i : Int) + (n : Int) ≤ s.length) →
   (∃ left', layW base all n i (L, left, c, nn, false, s) = (0, (L ++ blocks base all n i, left', c, nn + (n : Int), false, s)) ∧ -1 ≤ left' ∧ left' ≤ left ∧ (left < 0 → left' = left)) ∨
   (0 ≤ left ∧ ∃ m nn', m ≤ n ∧ nn' ≤ nn + (n : Int) ∧ layW base all n i (L, left, c, nn, false, s) = (6, ([], -1, c, nn', true, cutS c (L ++ blocks base all m i) 0 s)))
 | 0, i, L, left, nn, h, _, _ => .inl ⟨left, by simp [layW, blocks], h, Int.le_refl _, fun _ => rfl⟩
 | n + 1, i, L, left, nn, h, h1, h2 => by
   rcases z1er L left c nn s h (i := base + (i : Int)) (b := blkS all i) (by omega) (zrd all i) with ⟨left', e, g1, g2, g3⟩ | ⟨g1, e⟩
   · have he : (z2w (L, left, c, nn, false, s) (base + (i : Int)) (blkS all i)).1 = 0 := by rw [e]
     rw [z1jy he, e]
     rcases z1hk (base := base) (all := all) (c := c) (s := s) n (i + 1) (L ++ [(base + (i : Int), blkS all i)]) left' (nn + 1) g1 (by omega) (by omega) with ⟨left2, e2, k1, k2, k3⟩ | ⟨k1, m, nn', k2, k3, e2⟩
     · refine .inl ⟨left2, ?_, k1, by omega, fun hl => by rw [k3 (by have := g3 hl; omega), g3 hl]⟩
       rw [e2]
       simp only [blocks, List.append_assoc, List.singleton_append]
       congr 5
       omega
     · refine .inr ⟨by omega, m + 1, nn', by omega, by omega, ?_⟩
       rw [e2]
       simp only [blocks, List.append_assoc, List.singleton_append]
   · have he : ¬ (z2w (L, left, c, nn, false, s) (base + (i : Int)) (blkS all i)).1 = 0 := by rw [e]; simp
     rw [z1jx he, e]
     exact .inr ⟨g1, 1, nn + 1, by omega, by omega, rfl⟩
theorem zob {α : Type} (s : List α) (p q : Nat) (y : α) (hp : p < s.length) : (s.set p y)[q]? = if q = p then some y else s[q]? := by
 by_cases h : q = p
 · subst h; rw [if_pos rfl, List.getElem?_set_self hp]
 · rw [if_neg h, List.getElem?_set_ne (fun e => h e.symm)]
theorem z1fc (P : Nat → List Int → Prop) (c : List Int × Int × Int) : ∀ (L : List (Int × List Int)) (k : Nat) (s : List (List Int)), (∀ w, w ∈ L → 0 ≤ w.1 ∧ w.1 < s.length) →
   (∀ w, w ∈ L → ∀ n y, n ≤ 256 → P w.1.toNat y → P w.1.toNat (w.2.take n ++ y.drop n)) → (∀ q y, s[q]? = some y → P q y) → ∀ q y, (cutS c L k s)[q]? = some y → P q y
 | [], _, s, _, _, h => h
 | w :: ws, k, s, hL, hp, h => by
   simp only [cutS]
   have hw := hL w (by simp)
   have ht := z13x c k
   refine z1fc P c ws (k + 1) _ (fun v hv => by rw [zww]; exact hL v (by simp [hv])) (fun v hv => hp v (by simp [hv])) fun q y hq => ?_
   unfold putS at hq
   rw [zob _ _ _ _ (by omega)] at hq
   split at hq
   · rename_i e
     subst e
     have hlt : w.1.toNat < s.length := by omega
     rw [List.getElem?_eq_getElem hlt, Option.getD_some] at hq
     cases hq
     exact hp w (by simp) _ _ (by omega) (h _ _ (List.getElem?_eq_getElem hlt))
   · exact h q y hq
theorem z1a4 {base : Int} {all : List Int} (hb : 0 ≤ base) : ∀ (n i : Nat) (s : List (List Int)), base + (i : Int) + (n : Int) ≤ s.length → ∀ q,
   (sureS (blocks base all n i) s)[q]? = if base.toNat + i ≤ q ∧ q < base.toNat + i + n then some (blkS all (q - base.toNat)) else s[q]?
 | 0, i, s, h, q => by rw [if_neg (by omega)]; rfl
 | n + 1, i, s, h, q => by
   simp only [blocks, sureS]
   rw [z1a4 hb n (i + 1) _ (by rw [List.length_set]; omega) q, zob _ _ _ _ (by omega)]
   have e : (base + (i : Int)).toNat = base.toNat + i := by omega
   rw [e]
   by_cases h1 : q = base.toNat + i
   · rw [if_neg (by omega), if_pos h1, if_pos (by omega), h1]
     congr 2; omega
   · rw [if_neg h1]
     by_cases h2 : base.toNat + i ≤ q ∧ q < base.toNat + i + (n + 1)
     · rw [if_pos h2, if_pos (by omega)]
     · rw [if_neg h2, if_neg (by omega)]
theorem z13z {base : Int} {all : List Int} : ∀ (n i : Nat) {w : Int × List Int}, w ∈ blocks base all n i → ∃ j, i ≤ j ∧ j < i + n ∧ w = (base + (j : Int), blkS all j)
 | 0, _, _, h => by cases h
 | n + 1, i, w, h => by
   simp only [blocks, List.mem_cons] at h
   rcases h with rfl | h
   · exact ⟨i, by omega, by omega, rfl⟩
   · obtain ⟨j, h1, h2, h3⟩ := z13z n (i + 1) h
     exact ⟨j, by omega, by omega, h3⟩
def Sec (s : List (List Int)) (side : Int) (all : List Int) : Prop := ∀ i y, i < clS all.length → s[(baseS s.length side).toNat + i]? = some y → y.take (all.length - i * 256) = (all.drop (i * 256)).take 256
theorem z1qf {a b o : List Int} {m n : Nat} (hb : b.length = 256) (h1 : b.take m = a) (h2 : o.take m = a) (hn : n ≤ 256) : (b.take n ++ o.drop n).take m = a := by
 by_cases h : m ≤ n
 · rw [List.take_append_of_le_length (by rw [List.length_take]; omega), List.take_take, Nat.min_eq_left h, h1]
 · rw [List.take_append, List.take_take, List.length_take, Nat.min_eq_right (by omega), hb, Nat.min_eq_left hn, List.take_drop, show n + (m - n) = m by omega, h2, ← h1]
   have e : b.take n = (b.take m).take n := by rw [List.take_take, Nat.min_eq_left (by omega)]
   rw [e, List.take_append_drop]
theorem z1ha {all more : List Int} {i : Nat} (hi : i * 256 < all.length) : (blkS (all ++ more) i).take (all.length - i * 256) = (all.drop (i * 256)).take 256 := by
 unfold blkS
 have e : (all ++ more).drop (i * 256) = all.drop (i * 256) ++ more := List.drop_append_of_le_length (by omega)
 rw [e]
 have hl : (all.drop (i * 256)).length = all.length - i * 256 := List.length_drop
 generalize hA : all.drop (i * 256) = A at *
 rw [← hl]
 by_cases h : A.length ≤ 256
 · rw [List.take_append_of_le_length (by rw [List.length_take, List.length_append]; omega), List.take_take, Nat.min_eq_left h, List.take_left, List.take_of_length_le h]
 · have e2 : (A ++ more).take 256 = A.take 256 := List.take_append_of_le_length (by omega)
   have e3 : (List.replicate 256 (0 : Int)).drop (A ++ more).length = [] := List.drop_eq_nil_of_le (by rw [List.length_replicate, List.length_append]; omega)
   rw [e2, e3, List.append_nil, List.take_of_length_le (by rw [List.length_take]; omega)]
theorem z1pg {s : List (List Int)} {side : Int} {there : Nat} {all : List Int} (hx : 6 ≤ s.length ∧ s.length ≤ 5000) (hs : 0 ≤ side ∧ side ≤ 1) (hfit : (all.length : Int) ≤ roomS s.length) (hth : there ≤ all.length)
   (h : ∀ i y, i < there / 256 → s[(baseS s.length side).toNat + i]? = some y → y = (all.drop (i * 256)).take 256) (s' : List (List Int)) (hl : s'.length = s.length)
   (hq : ∀ q, s'[q]? = if (baseS s.length side).toNat + there / 256 ≤ q ∧ q < (baseS s.length side).toNat + there / 256 + (clS all.length - there / 256) then some (blkS all (q - (baseS s.length side).toNat)) else s[q]?) : Sec s' side all := by
 intro i y hi hy
 rw [hl, hq] at hy
 have hi' := hi
 unfold clS at hi'
 split at hy
 · rename_i h1
   cases hy
   rw [show (baseS s.length side).toNat + i - (baseS s.length side).toNat = i by omega]
   have := z1ha (all := all) (more := []) (i := i) (by omega)
   rw [List.append_nil] at this
   exact this
 · rename_i h1
   rw [h i y (by omega) hy]
   rw [List.take_take, Nat.min_eq_right (by omega)]
theorem z1pw {k : Nat} {x : DevT} (h : Dv k x) (hL : x.1 = []) (hx : 6 ≤ x.2.2.2.2.2.length ∧ x.2.2.2.2.2.length ≤ 5000) {side : Int} (hs : 0 ≤ side ∧ side ≤ 1) {all : List Int} (hfit : (all.length : Int) ≤ roomS x.2.2.2.2.2.length) (hsec : Sec x.2.2.2.2.2 side all) :
   (dataD x side (clS all.length)).take all.length = all := by
 have hcl : (clS all.length : Int) ≤ secS x.2.2.2.2.2.length := by unfold clS; unfold roomS at hfit; omega
 have key : ∀ n, n ≤ clS all.length → (dataD x side n).take all.length = all.take (n * 256) := by
   intro n
   induction n with
   | zero => intro _; rw [show dataD x side 0 = [] from rfl]; simp
   | succ n ih =>
     intro hn
     have hb := z1eg hx hs (i := n) (by omega)
     have hlen := zzf h hx hs n (by omega)
     have e := List.getElem?_eq_getElem hb.2
     have hy := hsec n _ (by omega) e
     have hnow : nowD x ((baseS x.2.2.2.2.2.length side).toNat + n) = x.2.2.2.2.2[(baseS x.2.2.2.2.2.length side).toNat + n]'hb.2 := by
       unfold nowD
       rw [hL, e]; rfl
     have hn' := hn
     unfold clS at hn'
     rw [z13v, List.take_append, hlen, hnow, hy, ih (by omega)]
     rw [show (n + 1) * 256 = n * 256 + 256 by omega, List.take_add]
 rw [key _ (Nat.le_refl _), List.take_of_length_le]
 unfold clS; omega
structure Lie (s : List (List Int)) : Prop where
 n : 6 ≤ s.length ∧ s.length ≤ 5000
 l : ∀ y, y ∈ s → y.length = 256
 b : ∀ y, y ∈ s → isB y
def pickL (s : List (List Int)) : Int × Int × Int := zq3 (zq3 (0, 0, 0) (zb4 ((s[0]?).getD []) (roomS s.length))) (zb4 ((s[1]?).getD []) (roomS s.length))
structure Fnd (s : List (List Int)) (t : Int × Int × Int) (all : List Int) : Prop where
 pick : pickL s = t
 ok : OkT t (roomS s.length)
 used : t.2.2 = (all.length : Int)
 sec : Sec s t.2.1 all
structure St (s : List (List Int)) (t : Int × Int × Int) (all : List Int) : Prop where
 ok : OkT t (roomS s.length)
 used : t.2.2 = (all.length : Int)
 here : s[(t.1 % 2).toNat]? = some (z2k t)
 old : ∃ o, s[((t.1 + 1) % 2).toNat]? = some o ∧ numS (cut8 o 56) = numS (cut8 o 8) ∧ numS (cut8 o 8) < t.1
 sec : Sec s t.2.1 all
theorem z1p3 {o : List Int} {n room : Int} (h1 : numS (cut8 o 8) < n) (h2 : 1 ≤ n) : (zb4 o room).1 < n := by
 by_cases h : saysS o room
 · rw [zzm h]; exact h1
 · rw [zbt h]; exact h2
theorem z1pl {a b : Int × Int × Int} (h : b.1 < a.1) : zq3 a b = a := if_neg (by omega)
theorem z1ig {a b : Int × Int × Int} (h : a.1 < b.1) : zq3 a b = b := if_pos h
theorem z1ek {s : List (List Int)} {t : Int × Int × Int} {a o : List Int} (h1 : 1 ≤ t.1) (ha : s[(t.1 % 2).toNat]? = some a) (ho : s[((t.1 + 1) % 2).toNat]? = some o) (e : zb4 a (roomS s.length) = t) (hlt : (zb4 o (roomS s.length)).1 < t.1) : pickL s = t := by
 unfold pickL
 rcases (show t.1 % 2 = 0 ∨ t.1 % 2 = 1 by omega) with h | h
 · have h2 : (t.1 + 1) % 2 = 1 := by omega
   rw [h] at ha; rw [h2] at ho
   rw [show (0 : Int).toNat = 0 from rfl] at ha
   rw [show (1 : Int).toNat = 1 from rfl] at ho
   rw [ha, ho, Option.getD_some, Option.getD_some, e, z1ig (a := (0, 0, 0)) (by show (0 : Int) < t.1; omega), z1pl hlt]
 · have h2 : (t.1 + 1) % 2 = 0 := by omega
   rw [h] at ha; rw [h2] at ho
   rw [show (1 : Int).toNat = 1 from rfl] at ha
   rw [show (0 : Int).toNat = 0 from rfl] at ho
   rw [ha, ho, Option.getD_some, Option.getD_some, e, z1ig]
   unfold zq3
   split
   · exact hlt
   · show (0 : Int) < t.1; omega
theorem St.fnd {s : List (List Int)} {t : Int × Int × Int} {all : List Int} (h : St s t all) : Fnd s t all := by
 obtain ⟨o, h1, h2, h3⟩ := h.old
 exact ⟨z1ek h.ok.1 h.here h1 (z10g h.ok) (z1p3 h3 h.ok.1), h.ok, h.used, h.sec⟩
end Go.Proofs.Ytpfjfldagldgnaa
set_option linter.unusedVariables false
set_option linter.unusedSimpArgs false
namespace Go.Proofs.Ytpfjfldagldgnaa
open Go.Tm Go.Ab
def Kp (s : List (List Int)) (side : Int) (all : List Int) (q : Nat) (y : List Int) : Prop :=
 y.length = 256 ∧ isB y ∧ (q < 2 → s[q]? = some y) ∧ (∀ i, i < clS all.length → q = (baseS s.length side).toNat + i → y.take (all.length - i * 256) = (all.drop (i * 256)).take 256)
theorem Kp.self {s : List (List Int)} {side : Int} {all : List Int} (h : Lie s) (hs : Sec s side all) {q : Nat} {y : List Int} (hq : s[q]? = some y) : Kp s side all q y :=
 ⟨h.l y (List.mem_of_getElem? hq), h.b y (List.mem_of_getElem? hq), fun _ => hq, fun i hi e => hs i y hi (by rw [← e]; exact hq)⟩
theorem Kp.lie {s s' : List (List Int)} {side : Int} {all : List Int} (h : Lie s) (hl : s'.length = s.length) (hk : ∀ q y, s'[q]? = some y → Kp s side all q y) : Lie s' where
 n := by rw [hl]; exact h.n
 l y hy := by
   obtain ⟨q, hq, rfl⟩ := List.mem_iff_getElem.1 hy
   exact (hk q _ (List.getElem?_eq_getElem hq)).1
 b y hy := by
   obtain ⟨q, hq, rfl⟩ := List.mem_iff_getElem.1 hy
   exact (hk q _ (List.getElem?_eq_getElem hq)).2.1
theorem Kp.low {s s' : List (List Int)} {side : Int} {all : List Int} (h : Lie s) (hl : s'.length = s.length) (hk : ∀ q y, s'[q]? = some y → Kp s side all q y) {q : Nat} (hq : q < 2) : s'[q]? = s[q]? := by
 have hn := h.n
 have hlt : q < s'.length := by omega
 have e := List.getElem?_eq_getElem hlt
 rw [e, (hk q _ e).2.2.1 hq]
theorem Kp.sec {s s' : List (List Int)} {side : Int} {all : List Int} (hl : s'.length = s.length) (hk : ∀ q y, s'[q]? = some y → Kp s side all q y) : Sec s' side all := fun i y hi hy => by
 rw [hl] at hy
 exact (hk _ y hy).2.2.2 i hi rfl
theorem Kp.pick {s s' : List (List Int)} {side : Int} {all : List Int} (h : Lie s) (hl : s'.length = s.length) (hk : ∀ q y, s'[q]? = some y → Kp s side all q y) : pickL s' = pickL s := by
 unfold pickL
 rw [Kp.low h hl hk (by omega), Kp.low h hl hk (by omega), hl]
theorem Kp.fnd {s s' : List (List Int)} {t : Int × Int × Int} {all : List Int} (h : Lie s) (hst : St s t all) (hl : s'.length = s.length) (hk : ∀ q y, s'[q]? = some y → Kp s t.2.1 all q y) : Fnd s' t all :=
 ⟨by rw [Kp.pick h hl hk]; exact hst.fnd.pick, by rw [hl]; exact hst.ok, hst.used, Kp.sec hl hk⟩
structure May (t : Int × Int × Int) (all : List Int) (side' : Int) (there : Nat) (all' : List Int) : Prop where
 b : isB all'
 n : t.1 < 4611686018427387904
 how : (side' = t.2.1 ∧ there = all.length ∧ ∃ more, all' = all ++ more) ∨ (side' = 1 - t.2.1 ∧ there = 0)
theorem May.torn {s : List (List Int)} {t : Int × Int × Int} {all : List Int} {side' : Int} {there : Nat} {all' : List Int} (hlie : Lie s) (hst : St s t all) (hm : May t all side' there all') (hfit : (all'.length : Int) ≤ roomS s.length)
   {j n : Nat} (h1 : there / 256 ≤ j) (h2 : j < clS all'.length) (hn : n ≤ 256) {y : List Int} (hy : Kp s t.2.1 all (baseS s.length side' + (j : Int)).toNat y) : Kp s t.2.1 all (baseS s.length side' + (j : Int)).toNat ((blkS all' j).take n ++ y.drop n) := by
 obtain ⟨k1, k2, k3, k4⟩ := hy
 have hx := hlie.n
 obtain ⟨t1, t2, t3, t4, t5, t6, t7⟩ := hst.ok
 have hu := hst.used
 have hsec : 0 ≤ secS s.length ∧ secS s.length ≤ 2500 := by unfold secS; omega
 have hcl' : (clS all'.length : Int) ≤ secS s.length := by unfold clS; unfold roomS at hfit; omega
 refine ⟨?_, (z1ah hm.b j).take n |>.app (k2.drop n), ?_, ?_⟩
 · rw [List.length_append, List.length_take, List.length_drop, zrd, k1]; omega
 · intro hq
   exfalso
   have : 2 ≤ baseS s.length side' := by
     unfold baseS
     rcases hm.how with ⟨e, _⟩ | ⟨e, _⟩ <;> rcases (show t.2.1 = 0 ∨ t.2.1 = 1 by omega) with e2 | e2 <;> rw [e, e2] <;> simp <;> omega
   omega
 · intro i hi hq
   have hcl : (clS all.length : Int) ≤ secS s.length := by unfold clS; unfold roomS at t6; omega
   rcases hm.how with ⟨e, e3, more, e4⟩ | ⟨e, _⟩
   · have hij : i = j := by
       rw [e] at hq
       have : 0 ≤ baseS s.length t.2.1 := by unfold baseS; rcases (show t.2.1 = 0 ∨ t.2.1 = 1 by omega) with e2 | e2 <;> rw [e2] <;> simp <;> omega
       omega
     subst hij
     have hi' := hi
     unfold clS at hi'
     refine z1qf (zrd _ _) ?_ (k4 i hi hq) hn
     rw [e4]
     exact z1ha (by omega)
   · exfalso
     unfold baseS at hq
     rcases (show t.2.1 = 0 ∨ t.2.1 = 1 by omega) with e2 | e2
     · rw [e, e2] at hq
       simp at hq
       omega
     · rw [e, e2] at hq
       simp at hq
       omega
theorem z1n8 {s : List (List Int)} {p : Nat} {o : List Int} (h : s[p]? = some o) : (s[p]?).getD [] = o := by rw [h]; rfl
theorem z1n1 {s : List (List Int)} {t t' : Int × Int × Int} {all all' : List Int} (hlie : Lie s) (hok : OkT t (roomS s.length)) (hu : t.2.2 = (all.length : Int)) (here : s[(t.1 % 2).toNat]? = some (z2k t)) {o : List Int} (ho : s[((t.1 + 1) % 2).toNat]? = some o) (ho1 : numS (cut8 o 56) = numS (cut8 o 8)) (ho2 : numS (cut8 o 8) < t.1)
   (hsec : Sec s t.2.1 all) (hn : t'.1 = t.1 + 1) (hok' : OkT t' (roomS s.length)) (hu' : t'.2.2 = (all'.length : Int)) (hsec' : Sec s t'.2.1 all') (k : Nat) (hk : k ≤ 256) :
   Lie (s.set (t'.1 % 2).toNat (mixB t' o k)) ∧ (Fnd (s.set (t'.1 % 2).toNat (mixB t' o k)) t all ∨ Fnd (s.set (t'.1 % 2).toNat (mixB t' o k)) t' all') := by
 have hx := hlie.n
 have hol : o.length = 256 := hlie.l o (List.mem_of_getElem? ho)
 have hob : isB o := hlie.b o (List.mem_of_getElem? ho)
 have hp : (t'.1 % 2).toNat < s.length := by omega
 have hpe : (t'.1 % 2).toNat = ((t.1 + 1) % 2).toNat := by rw [hn]
 have hlen : (s.set (t'.1 % 2).toNat (mixB t' o k)).length = s.length := List.length_set
 have hml := z1rx (t := t') hol k hk
 have hmb : isB (mixB t' o k) := ((zhh t').take k).app (hob.drop k)
 have hsame : ∀ q, 2 ≤ q → (s.set (t'.1 % 2).toNat (mixB t' o k))[q]? = s[q]? := fun q hq => by rw [zob _ _ _ _ hp, if_neg (by omega)]
 have secs : ∀ (side : Int) (al : List Int), 0 ≤ side ∧ side ≤ 1 → Sec s side al → Sec (s.set (t'.1 % 2).toNat (mixB t' o k)) side al := fun side al hs h i y hi hy => by
   rw [hlen] at hy
   have : 2 ≤ baseS s.length side := by
     have hsec : 0 ≤ secS s.length := by unfold secS; omega
     unfold baseS; rcases (show side = 0 ∨ side = 1 by omega) with e2 | e2 <;> rw [e2] <;> simp <;> omega
   rw [hsame _ (by omega)] at hy
   exact h i y hi hy
 have g1 : (s.set (t'.1 % 2).toNat (mixB t' o k))[(t.1 % 2).toNat]? = some (z2k t) := by rw [zob _ _ _ _ hp, if_neg (by omega), here]
 have g2 : (s.set (t'.1 % 2).toNat (mixB t' o k))[(t'.1 % 2).toNat]? = some (mixB t' o k) := List.getElem?_set_self hp
 have g3 : (t'.1 + 1) % 2 = t.1 % 2 := by omega
 refine ⟨⟨by rw [hlen]; exact hx, fun y hy => ?_, fun y hy => ?_⟩, ?_⟩
 · rcases List.mem_or_eq_of_mem_set hy with h | h
   · exact hlie.l y h
   · rw [h]; exact hml
 · rcases List.mem_or_eq_of_mem_set hy with h | h
   · exact hlie.b y h
   · rw [h]; exact hmb
 · have old : (zb4 (mixB t' o k) (roomS s.length)).1 < t.1 → Fnd (s.set (t'.1 % 2).toNat (mixB t' o k)) t all := fun hlt =>
     ⟨z1ek hok.1 g1 (by rw [← hpe]; exact g2) (by rw [hlen]; exact z10g hok) (by rw [hlen]; exact hlt), by rw [hlen]; exact hok, hu, secs _ _ ⟨hok.2.2.1, hok.2.2.2.1⟩ hsec⟩
   rcases z1me k hk hok' hol ho1 (by omega) with h | h | h
   · exact .inl (old (by rw [h]; exact hok.1))
   · refine .inr ⟨z1ek hok'.1 g2 (by rw [g3]; exact g1) (by rw [hlen]; exact h) ?_, by rw [hlen]; exact hok', hu', secs _ _ ⟨hok'.2.2.1, hok'.2.2.2.1⟩ hsec'⟩
     rw [hlen, z10g hok]; omega
   · exact .inl (old (by rw [h]; exact ho2))
theorem z1d2 {s : List (List Int)} {t t' : Int × Int × Int} {all' : List Int} (hlie : Lie s) (hok : OkT t (roomS s.length)) (here : s[(t.1 % 2).toNat]? = some (z2k t))
   (hn : t'.1 = t.1 + 1) (hok' : OkT t' (roomS s.length)) (hu' : t'.2.2 = (all'.length : Int)) (hsec' : Sec s t'.2.1 all') :
   Lie (s.set (t'.1 % 2).toNat (z2k t')) ∧ St (s.set (t'.1 % 2).toNat (z2k t')) t' all' := by
 have hx := hlie.n
 have hp : (t'.1 % 2).toNat < s.length := by omega
 have hlen : (s.set (t'.1 % 2).toNat (z2k t')).length = s.length := List.length_set
 have hsame : ∀ q, 2 ≤ q → (s.set (t'.1 % 2).toNat (z2k t'))[q]? = s[q]? := fun q hq => by rw [zob _ _ _ _ hp, if_neg (by omega)]
 obtain ⟨c0, c8, c16, c24, c32, cA, cB, c56⟩ := z13a t
 obtain ⟨t1, t2, t3, t4, t5, t6, t7⟩ := hok
 have g3 : (t'.1 + 1) % 2 = t.1 % 2 := by omega
 refine ⟨⟨by rw [hlen]; exact hx, fun y hy => ?_, fun y hy => ?_⟩, ⟨by rw [hlen]; exact hok', hu', List.getElem?_set_self hp, ⟨z2k t, ?_, by rw [c56, c8], by rw [c8, zjz (by omega)]; omega⟩, fun i y hi hy => ?_⟩⟩
 · rcases List.mem_or_eq_of_mem_set hy with h | h
   · exact hlie.l y h
   · rw [h]; exact zhj _
 · rcases List.mem_or_eq_of_mem_set hy with h | h
   · exact hlie.b y h
   · rw [h]; exact zhh _
 · rw [g3, zob _ _ _ _ hp, if_neg (by omega), here]
 · rw [hlen] at hy
   have : 2 ≤ baseS s.length t'.2.1 := by
     have hsec : 0 ≤ secS s.length := by unfold secS; omega
     unfold baseS; rcases (show t'.2.1 = 0 ∨ t'.2.1 = 1 by have := hok'.2.2.1; have := hok'.2.2.2.1; omega) with e2 | e2 <;> rw [e2] <;> simp <;> omega
   rw [hsame _ (by omega)] at hy
   exact hsec' i y hi hy
theorem z1g0 {s : List (List Int)} (hx : 6 ≤ s.length) (left : Int) (c : List Int × Int × Int) (nn : Int) (h : -1 ≤ left) (t : Int × Int × Int) (ht : 0 ≤ t.1) :
   (∃ left', tellD ([], left, c, nn, false, s) t = (0, ([], left', c, nn + 2, false, s.set (t.1 % 2).toNat (z2k t))) ∧ -1 ≤ left' ∧ left' ≤ left ∧ (left < 0 → left' = left)) ∨
   (0 ≤ left ∧ ∃ k nn', k ≤ 256 ∧ nn' ≤ nn + 2 ∧ tellD ([], left, c, nn, false, s) t = (6, ([], -1, c, nn', true, s.set (t.1 % 2).toNat (mixB t ((s[(t.1 % 2).toNat]?).getD []) k)))) := by
 have hk := z13x c 0
 have hcut : cutS c [(t.1 % 2, z2k t)] 0 s = s.set (t.1 % 2).toNat (mixB t ((s[(t.1 % 2).toNat]?).getD []) (tornN c 0).toNat) := rfl
 unfold tellD
 rcases z1er [] left c nn s h (i := t.1 % 2) (b := z2k t) (by omega) (zhj t) with ⟨left', e, g1, g2, g3⟩ | ⟨g1, e⟩
 · rw [e]
   simp only [if_true, List.nil_append]
   rcases z19z [(t.1 % 2, z2k t)] left' c (nn + 1) s g1 with ⟨left2, e2, k1, k2, k3⟩ | ⟨k1, e2⟩
   · refine .inl ⟨left2, ?_, k1, by omega, fun hl => by rw [k3 (by have := g3 hl; omega), g3 hl]⟩
     rw [e2]
     simp only [sureS]
     congr 5
     omega
   · refine .inr ⟨by omega, (tornN c 0).toNat, nn + 1 + 1, by omega, by omega, ?_⟩
     rw [e2, hcut]
 · refine .inr ⟨g1, (tornN c 0).toNat, nn + 1, by omega, by omega, ?_⟩
   rw [e]
   simp only [List.nil_append]
   rw [if_neg (by decide), hcut]
theorem z1n2 {s : List (List Int)} {t : Int × Int × Int} {all : List Int} (hlie : Lie s) (hst : St s t all) {side' : Int} {there : Nat} {all' : List Int} (hm : May t all side' there all') (left : Int) (c : List Int × Int × Int) (nn : Int) (hleft : -1 ≤ left) (cn count : Int) :
   (layJ ([], left, c, nn, false, s) (t, all, cn, false) side' there all' count = (5, (t, all, cn, false), ([], left, c, nn, false, s)) ∧ roomS s.length < all'.length) ∨
   (∃ left' nn' s', layJ ([], left, c, nn, false, s) (t, all, cn, false) side' there all' count = (0, ((t.1 + 1, side', (all'.length : Int)), all', count, false), ([], left', c, nn', false, s')) ∧ s'.length = s.length ∧ Lie s' ∧ St s' (t.1 + 1, side', (all'.length : Int)) all' ∧ (all'.length : Int) ≤ roomS s.length ∧ -1 ≤ left' ∧ (left < 0 → left' = left)) ∨
   (0 ≤ left ∧ ∃ jj nn' s', layJ ([], left, c, nn, false, s) (t, all, cn, false) side' there all' count = (6, jj, ([], -1, c, nn', true, s')) ∧ s'.length = s.length ∧ Lie s' ∧ (Fnd s' t all ∨ Fnd s' (t.1 + 1, side', (all'.length : Int)) all')) := by
 have hx := hlie.n
 obtain ⟨t1, t2, t3, t4, t5, t6, t7⟩ := hst.ok
 have hu := hst.used
 have hsecN : 0 ≤ secS s.length ∧ secS s.length ≤ 2500 ∧ 2 + 2 * secS s.length ≤ s.length := by unfold secS; omega
 have hside : 0 ≤ side' ∧ side' ≤ 1 := by rcases hm.how with ⟨e, _⟩ | ⟨e, _⟩ <;> omega
 by_cases hroom : roomS s.length < all'.length
 · refine .inl ⟨?_, hroom⟩
   unfold layJ
   rw [if_pos (.inr hroom)]
 · refine .inr ?_
   have hfit : (all'.length : Int) ≤ roomS s.length := by omega
   have hcl' : (clS all'.length : Int) ≤ secS s.length := by unfold clS; unfold roomS at hfit; omega
   have hbase : 2 ≤ baseS s.length side' ∧ baseS s.length side' + secS s.length ≤ s.length := by
     unfold baseS; rcases (show side' = 0 ∨ side' = 1 by omega) with e2 | e2 <;> rw [e2] <;> simp <;> omega
   have hth : there ≤ all'.length := by
     rcases hm.how with ⟨_, e, more, e4⟩ | ⟨_, e⟩
     · rw [e4, List.length_append]; omega
     · omega
   have hi0 : there / 256 ≤ clS all'.length := by unfold clS; omega
   have hok' : OkT (t.1 + 1, side', (all'.length : Int)) (roomS s.length) := ⟨by simp only; omega, by have := hm.n; simp only; omega, hside.1, hside.2, by simp only; omega, hfit, t7⟩
   obtain ⟨o, ho, ho1, ho2⟩ := hst.old
   -- torn writes of data
   have torn : ∀ (m : Nat), m ≤ clS all'.length - there / 256 → (cutS c (blocks (baseS s.length side') all' m (there / 256)) 0 s).length = s.length ∧ ∀ q y, (cutS c (blocks (baseS s.length side') all' m (there / 256)) 0 s)[q]? = some y → Kp s t.2.1 all q y := fun m hmle => by
     refine ⟨z14r _ _ _ _, z1fc (Kp s t.2.1 all) c _ 0 s (fun w hw => ?_) (fun w hw n y hn hy => ?_) fun q y hq => Kp.self hlie hst.sec hq⟩
     · obtain ⟨j, j1, j2, rfl⟩ := z13z _ _ hw
       simp only; omega
     · obtain ⟨j, j1, j2, rfl⟩ := z13z _ _ hw
       exact May.torn hlie hst hm hfit j1 (by omega) hn hy
   have lost : ∀ (m : Nat) (nn' : Int) (jj : JT), m ≤ clS all'.length - there / 256 → layJ ([], left, c, nn, false, s) (t, all, cn, false) side' there all' count = (6, jj, ([], -1, c, nn', true, cutS c (blocks (baseS s.length side') all' m (there / 256)) 0 s)) →
       ∃ jj nn' s', layJ ([], left, c, nn, false, s) (t, all, cn, false) side' there all' count = (6, jj, ([], -1, c, nn', true, s')) ∧ s'.length = s.length ∧ Lie s' ∧ (Fnd s' t all ∨ Fnd s' (t.1 + 1, side', (all'.length : Int)) all') := fun m nn' jj hmle e => by
     obtain ⟨q1, q2⟩ := torn m hmle
     exact ⟨jj, nn', _, e, q1, Kp.lie hlie q1 q2, .inl (Kp.fnd hlie hst q1 q2)⟩
   have head : ¬ (t.1 = 4611686018427387904 ∨ roomS s.length < all'.length) := by have := hm.n; omega
   rcases z1hk (base := baseS s.length side') (all := all') (c := c) (s := s) (clS all'.length - there / 256) (there / 256) [] left nn hleft (by omega) (by omega) with ⟨left1, e1, a1, a2, a3⟩ | ⟨a1, m, nn1, a2, a3, e1⟩
   · rcases z19z ([] ++ blocks (baseS s.length side') all' (clS all'.length - there / 256) (there / 256)) left1 c (nn + ((clS all'.length - there / 256 : Nat) : Int)) s a1 with ⟨left2, e2, b1, b2, b3⟩ | ⟨b1, e2⟩
     · -- all the data are sure
       generalize hs1 : sureS ([] ++ blocks (baseS s.length side') all' (clS all'.length - there / 256) (there / 256)) s = s1 at *
       have hget : ∀ q, s1[q]? = if (baseS s.length side').toNat + there / 256 ≤ q ∧ q < (baseS s.length side').toNat + there / 256 + (clS all'.length - there / 256) then some (blkS all' (q - (baseS s.length side').toNat)) else s[q]? := fun q => by
         rw [← hs1, List.nil_append]
         exact z1a4 (by omega) _ _ _ (by omega) q
       have hl1 : s1.length = s.length := by rw [← hs1]; exact z15w _ _
       have hkp : ∀ q y, s1[q]? = some y → Kp s t.2.1 all q y := fun q y hy => by
         rw [hget] at hy
         split at hy
         · rename_i hq
           cases hy
           have hlt : q < s.length := by omega
           have hself := Kp.self hlie hst.sec (List.getElem?_eq_getElem hlt)
           have eq : (baseS s.length side' + ((q - (baseS s.length side').toNat : Nat) : Int)).toNat = q := by omega
           have := May.torn hlie hst hm hfit (j := q - (baseS s.length side').toNat) (n := 256) (by omega) (by omega) (Nat.le_refl _) (by rw [eq]; exact hself)
           rw [eq, List.take_of_length_le (by rw [zrd]; omega), List.drop_eq_nil_of_le (by rw [hself.1]; omega), List.append_nil] at this
           exact this
         · exact Kp.self hlie hst.sec hy
       have hlie1 := Kp.lie hlie hl1 hkp
       have hsec1 : Sec s1 side' all' := by
         refine z1pg hx hside hfit hth (fun i y hi hy => ?_) s1 hl1 hget
         rcases hm.how with ⟨e, e3, more, e4⟩ | ⟨_, e⟩
         · rw [e] at hy
           have hi2 : i < clS all.length := by unfold clS; omega
           have := hst.sec i y hi2 hy
           have hyl := hlie.l y (List.mem_of_getElem? hy)
           rw [List.take_of_length_le (by omega)] at this
           rw [this, e4, List.drop_append_of_le_length (by omega), List.take_append_of_le_length (by rw [List.length_drop]; omega)]
         · omega
       have hhere : s1[(t.1 % 2).toNat]? = some (z2k t) := by rw [Kp.low hlie hl1 hkp (by omega)]; exact hst.here
       have hold : s1[((t.1 + 1) % 2).toNat]? = some o := by rw [Kp.low hlie hl1 hkp (by omega)]; exact ho
       have hsec0 : Sec s1 t.2.1 all := Kp.sec hl1 hkp
       rcases z1g0 (s := s1) (by omega) left2 c (nn + ((clS all'.length - there / 256 : Nat) : Int) + 1) b1 (t.1 + 1, side', (all'.length : Int)) (by simp only; omega) with ⟨left3, e3, c1, c2, c3⟩ | ⟨c1, k, nn3, c2, c3, e3⟩
       · refine .inl ⟨left3, nn + ((clS all'.length - there / 256 : Nat) : Int) + 1 + 2, s1.set ((t.1 + 1) % 2).toNat (z2k (t.1 + 1, side', (all'.length : Int))), ?_, by rw [List.length_set, hl1], (z1d2 hlie1 (by rw [hl1]; exact hst.ok) hhere rfl (by rw [hl1]; exact hok') rfl hsec1).1, (z1d2 hlie1 (by rw [hl1]; exact hst.ok) hhere rfl (by rw [hl1]; exact hok') rfl hsec1).2, hfit, c1, fun hl => by rw [c3 (by have := b3 (by have := a3 hl; omega); have := a3 hl; omega), b3 (by have := a3 hl; omega), a3 hl]⟩
         unfold layJ
         rw [if_neg head]
         simp only
         rw [e1]
         simp only
         rw [if_neg (by simp), e2]
         simp only
         rw [if_neg (by simp), e3]
         simp only
         rw [if_neg (by simp)]
       · have hT := z1n1 hlie1 (by rw [hl1]; exact hst.ok) hu hhere hold ho1 ho2 hsec0 (t' := (t.1 + 1, side', (all'.length : Int))) rfl (by rw [hl1]; exact hok') rfl hsec1 k c2
         refine .inr ⟨by omega, (t, all, cn, true), nn3, s1.set ((t.1 + 1) % 2).toNat (mixB (t.1 + 1, side', (all'.length : Int)) o k), ?_, by rw [List.length_set, hl1], hT.1, hT.2⟩
         simp only at e3
         rw [z1n8 hold] at e3
         unfold layJ
         rw [if_neg head]
         simp only
         rw [e1]
         simp only
         rw [if_neg (by simp), e2]
         simp only
         rw [if_neg (by simp), e3]
         simp only
         rw [if_pos (by simp)]
     · refine .inr ⟨by omega, lost (clS all'.length - there / 256) (nn + ((clS all'.length - there / 256 : Nat) : Int) + 1) (t, all, cn, true) (Nat.le_refl _) ?_⟩
       unfold layJ
       rw [if_neg head]
       simp only
       rw [e1]
       simp only
       rw [if_neg (by simp), e2]
       simp only
       rw [if_pos (by simp)]
       rfl
   · refine .inr ⟨a1, lost m nn1 (t, all, cn, true) a2 ?_⟩
     unfold layJ
     rw [if_neg head]
     simp only
     rw [e1]
     simp only
     rw [if_pos (by simp)]
     rfl
theorem Dv.layJ {k : Nat} {x : DevT} (h : Dv k x) (hk : k ≤ 90000) {j : JT} {side : Int} {there : Nat} {all : List Int} (hb : isB all) (count : Int) (hx : x.2.2.2.2.2.length ≤ 150) : Dv (k + 100) (layJ x j side there all count).2.2 := by
 unfold Go.Proofs.Ytpfjfldagldgnaa.layJ
 split
 · exact h.mono (by omega) (by omega)
 · rename_i h1
   have hroom : (all.length : Int) ≤ roomS x.2.2.2.2.2.length := by
     by_cases hh : roomS x.2.2.2.2.2.length < all.length
     · exact absurd (.inr hh) h1
     · omega
   have hcl : clS all.length ≤ 75 := by unfold clS; unfold roomS secS at hroom; omega
   have hd := Dv.lay (base := baseS x.2.2.2.2.2.length side) hb (clS all.length - there / 256) (there / 256) h (by omega)
   split
   · exact hd.mono (by omega) (by omega)
   · have hd2 := hd.barrier (by omega)
     split
     · exact hd2.mono (by omega) (by omega)
     · have hd3 := hd2.tell (by omega) (j.1.1 + 1, side, all.length)
       split
       · exact hd3.mono (by omega) (by omega)
       · exact hd3.mono (by omega) (by omega)
end Go.Proofs.Ytpfjfldagldgnaa
set_option linter.unusedVariables false
set_option linter.unusedSimpArgs false
namespace Go.Proofs.Ytpfjfldagldgnaa
open Go.Tm Go.Ab
structure Jn (k : Nat) (left : Int) (c : List Int × Int × Int) (nn : Int) (s : List (List Int)) (t : Int × Int × Int) (rs : List (List Int)) : Prop where
 dv : Dv k ([], left, c, nn, false, s)
 lie : Lie s
 st : St s t (lieS rs)
 recs : ∀ y, y ∈ rs → isB y ∧ y.length ≤ 65531
 s : s.length ≤ 150
theorem z1d5 (a b : List (List Int)) : lieS (a ++ b) = lieS a ++ lieS b := by unfold lieS; rw [List.map_append, List.flatten_append]
theorem z1i7 {l : List (List Int)} (h : ¬ longL l) : ∀ x, x ∈ l → x.length ≤ 65531 := fun x hx => by
 by_cases h2 : x.length ≤ 65531
 · exact h2
 · exact absurd ⟨x, hx, by omega⟩ h
theorem Jn.room {k : Nat} {left : Int} {c : List Int × Int × Int} {nn : Int} {s : List (List Int)} {t : Int × Int × Int} {rs : List (List Int)} (h : Jn k left c nn s t rs) : (lieS rs).length ≤ 640000 ∧ ((lieS rs).length : Int) ≤ roomS s.length := by
 have h1 := h.st.ok.2.2.2.2.2.1
 have h2 := h.st.used
 have h3 := h.lie.n
 have : roomS s.length ≤ 640000 := by unfold roomS secS; omega
 omega
def Out (k : Nat) (left : Int) (c : List Int × Int × Int) (nn : Int) (s : List (List Int)) (t t' : Int × Int × Int) (rs rs' : List (List Int)) (r : Int × JT × DevT) : Prop :=
 (r = (5, (t, lieS rs, (rs.length : Int), false), ([], left, c, nn, false, s)) ∧ roomS s.length < ((lieS rs').length : Int)) ∨
 (∃ left' nn' s', r = (0, (t', lieS rs', (rs'.length : Int), false), ([], left', c, nn', false, s')) ∧ s'.length = s.length ∧ Jn (k + 100) left' c nn' s' t' rs' ∧ (left < 0 → left' = left)) ∨
 (0 ≤ left ∧ ∃ jj nn' s', r = (6, jj, ([], -1, c, nn', true, s')) ∧ s'.length = s.length ∧ Dv (k + 100) ([], -1, c, nn', true, s') ∧ Lie s' ∧ (Fnd s' t (lieS rs) ∨ Fnd s' t' (lieS rs')))
theorem z1nh {k : Nat} {left : Int} {c : List Int × Int × Int} {nn : Int} {s : List (List Int)} {t : Int × Int × Int} {rs rs' : List (List Int)} (h : Jn k left c nn s t rs) (hk : k ≤ 80000) (hr : ∀ y, y ∈ rs' → isB y ∧ y.length ≤ 65531) {side' : Int} {there : Nat} (hm : May t (lieS rs) side' there (lieS rs')) :
   Out k left c nn s t (t.1 + 1, side', ((lieS rs').length : Int)) rs rs' (layJ ([], left, c, nn, false, s) (t, lieS rs, (rs.length : Int), false) side' there (lieS rs') (rs'.length : Int)) := by
 have hd := h.dv.layJ (by omega) (j := (t, lieS rs, (rs.length : Int), false)) (side := side') (there := there) hm.b (rs'.length : Int) h.s
 rcases z1n2 h.lie h.st hm left c nn h.dv.ok.left.1 (rs.length : Int) (rs'.length : Int) with ⟨e, h1⟩ | ⟨left', nn', s', e, h1, h2, h3, h4, h5, h6⟩ | ⟨h0, jj, nn', s', e, h1, h2, h3⟩
 · exact .inl ⟨e, h1⟩
 · rw [e] at hd
   exact .inr (.inl ⟨left', nn', s', e, h1, ⟨hd, h2, h3, hr, by rw [h1]; exact h.s⟩, h6⟩)
 · rw [e] at hd
   exact .inr (.inr ⟨h0, jj, nn', s', e, h1, hd, h2, h3⟩)
theorem z1jo {k : Nat} {left : Int} {c : List Int × Int × Int} {nn : Int} {s : List (List Int)} {t : Int × Int × Int} {rs : List (List Int)} (h : Jn k left c nn s t rs) (hk : k ≤ 80000) (hn : t.1 < 4611686018427387904) {l : List (List Int)} (hl : OkL l) (hs : ¬ longL l) (hne : l ≠ []) :
   ∃ r, z5i l t (lieS rs) (rs.length : Int) false [] left c nn false s = some (flatJ r) ∧ Out k left c nn s t (t.1 + 1, t.2.1, ((lieS (rs ++ l)).length : Int)) rs (rs ++ l) r := by
 have hx := h.lie.n
 have hroom := h.room
 have hc := zz0 rs
 have hj : OkJ (t, lieS rs, (rs.length : Int), false) := ⟨⟨by have := h.st.ok.1; simp only; omega, h.st.ok.2.1⟩, h.st.ok.2.2.1, h.st.ok.2.2.2.1⟩
 have e := z1ob h.dv (by omega) (by simp only; omega) hj (zp6 rs h.recs) (by simp only; omega) (by simp only; omega) hl
 have hrec : ∀ y, y ∈ rs ++ l → isB y ∧ y.length ≤ 65531 := fun y hy => by
   rcases List.mem_append.1 hy with h1 | h1
   · exact h.recs y h1
   · exact ⟨hl.b y h1, z1i7 hs y h1⟩
 have hm : May t (lieS rs) t.2.1 (lieS rs).length (lieS (rs ++ l)) := ⟨zp6 _ hrec, hn, .inl ⟨rfl, rfl, lieS l, z1d5 rs l⟩⟩
 have ho := z1nh h hk hrec hm
 refine ⟨_, e, ?_⟩
 unfold addJ
 rw [if_neg (by simp), if_neg hs, if_neg hne]
 simp only
 rw [← z1d5, show (rs.length : Int) + (l.length : Int) = ((rs ++ l).length : Int) by rw [List.length_append]; simp]
 exact ho
theorem z1pz {k : Nat} {left : Int} {c : List Int × Int × Int} {nn : Int} {s : List (List Int)} {t : Int × Int × Int} {rs : List (List Int)} (h : Jn k left c nn s t rs) (hk : k ≤ 80000) :
   z5i [] t (lieS rs) (rs.length : Int) false [] left c nn false s = some (0, t, lieS rs, (rs.length : Int), false, [], left, c, nn, false, s) := by
 have hx := h.lie.n
 have hroom := h.room
 have hc := zz0 rs
 have hj : OkJ (t, lieS rs, (rs.length : Int), false) := ⟨⟨by have := h.st.ok.1; simp only; omega, h.st.ok.2.1⟩, h.st.ok.2.2.1, h.st.ok.2.2.2.1⟩
 have e := z1ob h.dv (by omega) (by simp only; omega) hj (zp6 rs h.recs) (by simp only; omega) (by simp only; omega) (l := []) ⟨by simp, fun x hx => (by cases hx), by simp [lieS]⟩
 refine e.trans ?_
 unfold addJ
 rw [if_neg (by simp), if_neg (by rintro ⟨x, hx, _⟩; cases hx), if_pos rfl]
 rfl
theorem z1jf {k : Nat} {left : Int} {c : List Int × Int × Int} {nn : Int} {s : List (List Int)} {t : Int × Int × Int} {rs : List (List Int)} (h : Jn k left c nn s t rs) (hk : k ≤ 80000) (hn : t.1 < 4611686018427387904) {l : List (List Int)} (hl : OkL l) (hs : ¬ longL l) :
   ∃ r, z7k l t (lieS rs) (rs.length : Int) false [] left c nn false s = some (flatJ r) ∧ Out k left c nn s t (t.1 + 1, 1 - t.2.1, ((lieS l).length : Int)) rs l r := by
 have hx := h.lie.n
 have hj : OkJ (t, lieS rs, (rs.length : Int), false) := ⟨⟨by have := h.st.ok.1; simp only; omega, h.st.ok.2.1⟩, h.st.ok.2.2.1, h.st.ok.2.2.2.1⟩
 have e := z1ln h.dv (by omega) (by simp only; omega) hj hl
 have hrec : ∀ y, y ∈ l → isB y ∧ y.length ≤ 65531 := fun y h1 => ⟨hl.b y h1, z1i7 hs y h1⟩
 have hm : May t (lieS rs) (1 - t.2.1) 0 (lieS l) := ⟨zp6 _ hrec, hn, .inr ⟨rfl, rfl⟩⟩
 have ho := z1nh h hk hrec hm
 refine ⟨_, e, ?_⟩
 unfold z1aq
 rw [if_neg (by simp), if_neg hs]
 exact ho
theorem z1an {k : Nat} {left : Int} {c : List Int × Int × Int} {nn : Int} {s : List (List Int)} {t : Int × Int × Int} {rs : List (List Int)} (hd : Dv k ([], left, c, nn, false, s)) (hlie : Lie s) (h : Fnd s t (lieS rs)) (hr : ∀ y, y ∈ rs → isB y ∧ y.length ≤ 65531) :
   z2u [] left c nn false s = some (.inr (0, [], left, c, nn, false, t, lieS rs, (rs.length : Int), false, rs, s)) := by
 have hx := hlie.n
 have hok := h.ok
 have hu := h.used
 have hp : pickT ([], left, c, nn, false, s) = t := h.pick
 have e : t.2.2.toNat = (lieS rs).length := by omega
 refine z1kq hd rfl hx hp hok hr ?_
 rw [e]
 exact z1pw hd rfl hx ⟨hok.2.2.1, hok.2.2.2.1⟩ (by have := hok.2.2.2.2.2.1; simp only; omega) h.sec
def zeroS : List Int := List.replicate 256 0
def new1 (n : Nat) : List (List Int) := (List.replicate n zeroS).set 1 (z2k (1, 0, 0))
theorem z1r2 (n : Nat) (hn : n ≤ 5000) : Dv 1 (newD n) :=
 ⟨z1rv n (by omega), Nat.zero_le _, by show (0 : Int) ≤ 1; omega, by omega, fun y hy => by rw [List.eq_of_mem_replicate hy]; exact z18w 256, fun w hw => by cases hw⟩
theorem z1ei (n q : Nat) : (List.replicate n zeroS)[q]? = if q < n then some zeroS else none := List.getElem?_replicate
theorem z1b5 (i : Nat) : numS (cut8 zeroS i) = 0 := by
 have : ∀ (k : Nat), numS (List.replicate k 0) = 0 := fun k => by
   induction k with
   | zero => rfl
   | succ k ih => rw [List.replicate_succ', z14j, ih]; rfl
 unfold cut8 zeroS
 rw [List.drop_replicate, List.take_replicate, this]
theorem z1jr (n : Nat) (h : 6 ≤ n ∧ n ≤ 5000) : Lie (List.replicate n zeroS) :=
 ⟨by rw [List.length_replicate]; exact h, fun y hy => by rw [List.eq_of_mem_replicate hy]; exact List.length_replicate, fun y hy => by rw [List.eq_of_mem_replicate hy]; exact z18w 256⟩
theorem zoq (n : Nat) : (new1 n).length = n := by unfold new1; rw [List.length_set, List.length_replicate]
theorem z1az (n : Nat) (h : 6 ≤ n ∧ n ≤ 5000) : Lie (new1 n) := by
 refine ⟨by rw [zoq]; exact h, fun y hy => ?_, fun y hy => ?_⟩
 · rcases List.mem_or_eq_of_mem_set hy with h2 | h2
   · exact (z1jr n h).l y h2
   · rw [h2]; exact zhj _
 · rcases List.mem_or_eq_of_mem_set hy with h2 | h2
   · exact (z1jr n h).b y h2
   · rw [h2]; exact zhh _
theorem z1k6 (n : Nat) (h : 6 ≤ n ∧ n ≤ 5000) : 512 ≤ roomS n ∧ roomS n ≤ 640000 := by unfold roomS secS; omega
theorem z1s0 (n : Nat) (h : 6 ≤ n ∧ n ≤ 5000) : St (new1 n) (1, 0, 0) [] := by
 have hr := z1k6 n h
 have hl : 1 < (List.replicate n zeroS).length := by rw [List.length_replicate]; omega
 refine ⟨by rw [zoq]; exact ⟨by decide, by decide, by decide, by decide, by decide, by simp only; omega, by omega⟩, rfl, List.getElem?_set_self hl, ⟨zeroS, ?_, by rw [z1b5, z1b5], by rw [z1b5]; decide⟩, fun i y hi => absurd hi (by simp [clS])⟩
 show (new1 n)[0]? = _
 unfold new1
 rw [zob _ _ _ _ hl, if_neg (by omega), z1ei, if_pos (by omega)]
theorem z1ke (n : Nat) (h0 : 6 ≤ n ∧ n ≤ 150) : Jn 3 (-1) ([], 0, 0) 2 (new1 n) (1, 0, 0) [] := by
 have h : 6 ≤ n ∧ n ≤ 5000 := by omega
 refine ⟨?_, z1az n h, z1s0 n h, fun y hy => (by cases hy), by rw [zoq]; exact h0.2⟩
 refine ⟨⟨⟨(z1az n h).l, fun w hw => by cases hw⟩, by simp, by simp, by simp, by simp, by simp only; rw [zoq]; omega⟩, Nat.zero_le _, by simp, by omega, (z1az n h).b, fun w hw => by cases hw⟩
theorem z1in (n : Nat) (h : 6 ≤ n ∧ n ≤ 5000) :
   z2u [] (-1) ([], 0, 0) 0 false (List.replicate n (List.replicate 256 0)) = some (.inr (0, [], -1, ([], 0, 0), 2, false, (1, 0, 0), [], 0, false, [], new1 n)) := by
 have hlen : (List.replicate n zeroS).length = n := List.length_replicate
 have htell : tellD (newD n) (1, 0, 0) = (0, ([], -1, ([], 0, 0), 2, false, new1 n)) := by
   rcases z1g0 (s := List.replicate n zeroS) (by omega) (-1) ([], 0, 0) 0 (by omega) (1, 0, 0) (by decide) with ⟨left', e, h1, h2, h3⟩ | ⟨h0, _⟩
   · rw [h3 (by omega)] at e
     exact e
   · omega
 have hp : (pickT (newD n)).1 = 0 := by
   have h0 : nowD (newD n) 0 = zeroS := by
     show nowS [] 0 ((List.replicate n zeroS)[0]?.getD []) = _
     rw [z1ei, if_pos (by omega)]; rfl
   have h1 : nowD (newD n) 1 = zeroS := by
     show nowS [] 1 ((List.replicate n zeroS)[1]?.getD []) = _
     rw [z1ei, if_pos (by omega)]; rfl
   unfold pickT
   rw [h0, h1, show zb4 zeroS _ = (0, 0, 0) from z1lq]; rfl
 have := z1kn (z1r2 n h.2) (by omega) rfl (by show 6 ≤ (List.replicate n _).length ∧ (List.replicate n _).length ≤ 5000; rw [List.length_replicate]; exact h) hp (by rw [htell])
 rw [htell] at this
 exact this
theorem z1nb (n : Int) (h : 1 ≤ n ∧ n ≤ 4096) : zg7 n = some (.inr (0, [], -1, ([], 0, 0), 0, false, List.replicate n.toNat (List.replicate 256 0))) := z1sk n h
theorem z1r9 : OkL [[97, 98], []] := ⟨by simp, fun x hx => by
 simp only [List.mem_cons, List.not_mem_nil, or_false] at hx
 rcases hx with rfl | rfl
 · unfold isB; decide
 · exact z1dq, by simp [lieS, zpd, zf2]⟩
theorem z1q8 : zij = some true := by
 unfold zij
 rw [z1nb 6 (by omega)]
 have hop := z1in 6 (by omega)
 have hj := z1ke 6 (by omega)
 have hlen : (lieS [[97, 98], []]).length = 12 := by simp [lieS, zpd, zf2]
 obtain ⟨r, e, ho⟩ := z1jo hj (by omega) (by decide) z1r9 (by rintro ⟨x, hx, h2⟩; simp at hx; rcases hx with rfl | rfl <;> simp at h2) (by simp)
 simp only [Option.bind_some, Sum.elim_inr, beq_self, cond_true, List.nil_append, z2t] at e ho ⊢
 rw [show (6 : Int).toNat = 6 from rfl, hop]
 simp only [Option.bind_some, Sum.elim_inr, beq_self, cond_true, List.length_nil]
 rw [z0p (by omega), neI_f (show ((0 : Nat) : Int) = 0 from rfl)]
 simp only [cond_false]
 rw [show (lieS [] : List Int) = [] from rfl, show ((List.length ([] : List (List Int)) : Nat) : Int) = 0 from rfl] at e
 rw [e]
 rcases ho with ⟨e2, h1⟩ | ⟨left', nn', s', e2, h1, h2, h3⟩ | ⟨h0, _⟩
 · exfalso
   rw [hlen, zoq] at h1
   have := z1k6 6 (by omega)
   omega
 · have hl := h3 (by omega)
   subst hl
   have hf := z1an h2.dv h2.lie h2.st.fnd h2.recs
   have hs6 : s'.length = 6 := by rw [h1, zoq]
   rw [e2]
   simp only [flatJ, Option.bind_some, beq_self, cond_true]
   rw [neI_f rfl, hf]
   simp only [cond_false, Option.bind_some, Sum.elim_inr, z2t, beq_self, cond_true]
   rw [eqI_t rfl, z0p (by simp), eqI_t (by rfl), z1hf]
   simp only [cond_true, Option.bind_some]
   rw [eqS_t rfl, z1m6]
   simp only [cond_true, Option.bind_some]
   rw [z0p (by simp), eqI_t (by rfl)]
   simp only [cond_true]
   have hrm := z1p8 (x := ([], -1, ([], 0, 0), nn', false, s')) (by simp only; omega) (j := ((1 + 1, 0, ((lieS [[97, 98], []]).length : Int)), lieS [[97, 98], []], (List.length ([[97, 98], []] : List (List Int)) : Int), false)) (by simp only; omega) s' rfl
   simp only at hrm
   rw [hrm, hlen, hs6]
   simp only [Option.bind_some]
   rw [show roomS 6 - ((12 : Nat) : Int) = 500 by unfold roomS secS; rfl, eqI_t rfl]
   simp only [cond_true]
   unfold z7w
   simp only [Option.bind_some]
   rw [eqI_t (by rfl)]
 · omega
end Go.Proofs.Ytpfjfldagldgnaa
set_option linter.unusedVariables false
set_option linter.unusedSimpArgs false
namespace Go.Proofs.Ytpfjfldagldgnaa
open Go.Tm Go.Ab
theorem z14d (a : Int) : neI a a = false := neI_f rfl
theorem z13b (a : Int) : eqI a a = true := eqI_t rfl
theorem z1bh {l : List (List Int)} (h : l.length ≤ 1000000) : z6q l = some l := by
 unfold z6q
 rw [z0p (by omega), show Nat.beq 0 (List.length ([] : List (List Int))) = true from rfl, cond_true]
 have := (ztk z5a l (fun i (a : List (List Int)) => (l, ((l.length : Nat) : Int), (i : Int), a)) (fun a => a) (fun a x => a ++ [x]) (fun i a => a = l.take i) ?_ ?_ (a := []) (by simp))
 · obtain ⟨h1, h2⟩ := this
   rw [List.take_length] at h2
   rw [show (((0 : Nat) : Int)) = 0 from rfl, h2] at h1
   rw [h1]
   simp only [Option.bind_some, beq_self, cond_true]
 · intro a _
   show z7o l ((l.length : Nat) : Int) ((l.length : Nat) : Int) a = _
   unfold z7o
   rw [ltI_f (Int.lt_irrefl _), beq_self]; rfl
 · intro i a hi ha
   subst ha
   refine ⟨?_, (List.take_append_getElem hi)⟩
   show z7o l ((l.length : Nat) : Int) (i : Int) (l.take i) = _
   unfold z7o
   rw [ltI_t (by omega), zsu hi]
   simp only [cond_true, Option.bind_some, beq_self]
   rw [z8f (by rw [List.length_take]; simp; omega), zbf (by omega)]
theorem z1fe {l : List (List Int)} (h : l.length ≤ 1000000) : z5v l l = some true := by
 unfold z5v
 rw [z0p (by omega), z0p (by omega), neI_f rfl, z0p (by omega)]
 simp only [cond_false]
 have := z1fw z6w l (fun i => (l, l, ((l.length : Nat) : Int), (i : Int))) (fun _ => false) (.inr false) (.inl ()) ?_ ?_
 · rw [show (((0 : Nat) : Int)) = 0 from rfl] at this
   rw [this]
   simp
 · show z9l l l ((l.length : Nat) : Int) ((l.length : Nat) : Int) = _
   unfold z9l
   rw [ltI_f (Int.lt_irrefl _)]; rfl
 · intro i hi
   show z9l l l ((l.length : Nat) : Int) (i : Int) = _
   unfold z9l
   rw [ltI_t (by omega), zsu hi]
   simp only [cond_true, Option.bind_some]
   rw [eqS_t rfl, zbf (by omega)]; rfl
abbrev OpT := Int × List (List Int) × Int × (List Int × Int × Int)
def fitO (o : OpT) : Prop := o.2.1.length ≤ 6 ∧ o.2.2.2.1.length ≤ 70 ∧ ∀ y, y ∈ o.2.1 → y.length ≤ 2000
theorem z1qq {o : OpT} (script : List OpT) (a b : Int) (t33 : List Int) (t34 : Int) (t35 : Bool) (h6 : o.2.1.length ≤ 6) (hy : ∀ y, y ∈ o.2.1 → y.length ≤ 9223372036854775807) :
   Ok (loopC z1g (script, a, b, t33, t34, t35, o.2.1, ((o.2.1.length : Nat) : Int), 0, o)) fun r => (r = .inl (script, a, b, t33, t34, t35, o) ∧ ∀ y, y ∈ o.2.1 → y.length ≤ 2000) ∨ r = .inr false := by
 refine z1c9 o.2.1.length (fun i (_ : Unit) => (script, a, b, t33, t34, t35, o.2.1, ((o.2.1.length : Nat) : Int), (i : Int), o)) (fun i _ => ∀ j (hj : j < o.2.1.length), j < i → o.2.1[j].length ≤ 2000) () rfl (fun j hj h => by omega) ?_ ?_
 · intro _ hI
   show Ok (z2a script a b t33 t34 t35 o.2.1 ((o.2.1.length : Nat) : Int) ((o.2.1.length : Nat) : Int) o) _
   unfold z2a
   rw [ltI_f (Int.lt_irrefl _)]
   refine zbh (z3v (zm0 (.inl ⟨rfl, fun y hy2 => ?_⟩)))
   obtain ⟨j, hj, rfl⟩ := List.mem_iff_getElem.1 hy2
   exact hI j hj hj
 · intro i _ hi hI
   show Ok (z2a script a b t33 t34 t35 o.2.1 ((o.2.1.length : Nat) : Int) (i : Int) o) _
   unfold z2a
   rw [ltI_t (by omega)]
   refine zrt (qx hi (qs ?_ (hy _ (List.getElem_mem hi))))
   refine ok_lt (fun h => z3v (zm0 (.inr rfl))) fun h => ?_
   refine z3v (z18o ⟨(), ?_, fun j hj hji => ?_⟩)
   · rw [zbf (by omega)]
   · by_cases e : j = i
     · subst e; omega
     · exact hI j hj (by omega)
theorem z1ru (n : Int) (script : List OpT) (hl : script.length ≤ 9223372036854775807) (hs : ∀ o, o ∈ script → o.2.1.length ≤ 9223372036854775807 ∧ o.2.2.2.1.length ≤ 9223372036854775807 ∧ ∀ y, y ∈ o.2.1 → y.length ≤ 9223372036854775807) :
   Ok (zvi n script) fun r => r = true → 6 ≤ n ∧ n ≤ 14 ∧ script.length ≤ 30 ∧ ∀ o, o ∈ script → fitO o := by
 unfold zvi
 refine ok_lt (fun h => z3v fun h => by cases h) fun h1 => ?_
 refine ok_lt (fun h => z3v fun h => by cases h) fun h2 => ?_
 refine qs ?_
 refine ok_lt (fun h => z3v fun h => by cases h) fun h3 => ?_
 refine qs ?_
 refine z18t (z1c9 (Q := fun r => (r = .inl () ∧ ∀ o, o ∈ script → fitO o) ∨ r = .inr false) script.length (fun i (_ : Unit) => (script, ((script.length : Nat) : Int), (i : Int))) (fun i _ => ∀ j (hj : j < script.length), j < i → fitO script[j]) () rfl (fun j hj h => by omega) ?_ ?_) ?_
 · intro _ hI
   show Ok (z9h script ((script.length : Nat) : Int) ((script.length : Nat) : Int)) _
   unfold z9h
   rw [ltI_f (Int.lt_irrefl _)]
   refine zbh (z3v (zm0 (.inl ⟨rfl, fun o ho => ?_⟩)))
   obtain ⟨j, hj, rfl⟩ := List.mem_iff_getElem.1 ho
   exact hI j hj hj
 · intro i _ hi hI
   show Ok (z9h script ((script.length : Nat) : Int) (i : Int)) _
   unfold z9h
   rw [ltI_t (by omega)]
   obtain ⟨b1, b2, b3⟩ := hs _ (List.getElem_mem hi)
   refine zrt (qx hi (qs ?_ b1))
   refine ok_lt (fun h => z3v (zm0 (.inr rfl))) fun h4 => ?_
   refine qs ?_ b2
   refine ok_lt (fun h => z3v (zm0 (.inr rfl))) fun h5 => ?_
   refine qs ?_ b1
   refine z18t (z1qq script _ _ _ _ _ (by omega) b3) fun r hr => ?_
   rcases hr with ⟨rfl, h6⟩ | rfl
   · refine z1ia (z3v (z18o ⟨(), ?_, fun j hj hji => ?_⟩))
     · rw [zbf (by omega)]
     · by_cases e : j = i
       · subst e; exact ⟨by omega, by omega, h6⟩
       · exact hI j hj (by omega)
   · exact z1cf (z3v (zm0 (.inr rfl)))
 · intro r hr
   rcases hr with ⟨rfl, h6⟩ | rfl
   · exact z1ia (z3v fun _ => ⟨by omega, by omega, by omega, h6⟩)
   · exact z1cf (z3v fun h => by cases h)
theorem z1rs {l : List (List Int)} (h1 : l.length ≤ 6) (h2 : ∀ y, y ∈ l → y.length ≤ 2000) : (lieS l).length ≤ 12042 := by
 have key : ∀ (l : List (List Int)), (∀ y, y ∈ l → y.length ≤ 2000) → (lieS l).length ≤ l.length * 2007 := by
   intro l
   induction l with
   | nil => intro _; simp [lieS]
   | cons x l ih =>
     intro h
     have := ih fun y hy => h y (by simp [hy])
     have hx := h x (by simp)
     rw [z12x, List.length_append, zpd, zf2, List.length_cons]
     split <;> omega
 have := key l h2
 omega
theorem z1s2 {l : List (List Int)} (h1 : l.length ≤ 6) (h2 : ∀ y, y ∈ l → y.length ≤ 2000) (h3 : ∀ y, y ∈ l → isB y) : OkL l := ⟨by omega, h3, by have := z1rs h1 h2; omega⟩
theorem z1nz {l : List (List Int)} (h2 : ∀ y, y ∈ l → y.length ≤ 2000) : ¬ longL l := fun ⟨x, hx, h⟩ => by have := h2 x hx; omega
end Go.Proofs.Ytpfjfldagldgnaa