import Derived.Test.YtpfjfldagldgnaaJrOtoJrA3
set_option linter.unusedVariables false
set_option linter.unusedSimpArgs false
namespace Go.Proofs.Ytpfjfldagldgnaa
open Go.Tm Go.Ab
theorem z1hv (l : List (List Int)) : z0s l = some 3 := rfl
theorem z16v (l : List (List Int)) : z0y l = some 3 := rfl
theorem z1g4 : z4k = some (.inl ([], 1)) := rfl
theorem z1f8 : z5l = some 0 := rfl
theorem z1hx : z6e = some 0 := rfl
theorem z1ah : z1b = some true := rfl
theorem zjd (a : Int) : neI a a = false := neI_f rfl
theorem zps (a : Int) : eqI a a = true := eqI_t rfl
theorem z17b (w : List (List Int)) (x : DevT) : z3k (w, x.1, x.2.1, x.2.2.1, x.2.2.2.1, x.2.2.2.2.1) = some x.2.2.2.1 := rfl
theorem z1mq (c c2 : List Int × Int × Int) (hc : c.1.length < 1000000) (left nn : Int) (off : Bool) (s : List (List Int)) (hl : ∀ y, y ∈ s → y.length = 256) :
   z5r c [] left c2 nn off s = some (if off then ([], left, c2, nn, off, s) else ([], -1, c2, nn, true, s)) :=
 z1li c [] left c2 nn off s (by simp) hc ⟨hl, fun w hw => by cases hw⟩
theorem z1p7 {n : Nat} (h : 6 ≤ n ∧ n ≤ 30) {m : Nat} (hm : 65529 ≤ m ∧ m ≤ 65533) :
   z0v [List.replicate m 0] (1, 0, 0) [] 0 false [] (-1) ([], 0, 0) 2 false (new1 n) = some (if 65531 < m then 4 else 5, (1, 0, 0), [], 0, false, [], -1, ([], 0, 0), 2, false, new1 n) := by
 have hj := zz4 n (by omega)
 have hll : (lieS [List.replicate m 0]).length = m + 7 := by
   simp only [lieS, List.map_cons, List.map_nil, List.flatten_cons, List.flatten_nil, List.append_nil, zdc, z9q, List.length_replicate]
   rw [if_neg (by omega)]
 have hok : OkL [List.replicate m 0] := ⟨by simp, fun x hx => by rw [List.mem_singleton.1 hx]; exact zul m, by omega⟩
 by_cases hlong : 65531 < m
 · rw [if_pos hlong]
   have e := z14i hj.dv (by omega) (by simp only; rw [za0]; omega) (j := ((1, 0, 0), [], 0, false)) ⟨by decide, by decide⟩ zn8 (by simp) (by decide) hok
   refine e.trans ?_
   unfold addJ
   rw [if_neg (by simp), if_pos ⟨_, List.mem_singleton.2 rfl, by rw [List.length_replicate]; exact hlong⟩]
   rfl
 · rw [if_neg hlong]
   obtain ⟨r, e, ho⟩ := z1hu hj (by omega) (by decide) hok (by rintro ⟨x, hx, h2⟩; rw [List.mem_singleton.1 hx, List.length_replicate] at h2; omega) (by simp)
   refine e.trans ?_
   have hr := zz5 n (by omega)
   have hr2 : roomS n ≤ 3584 := by unfold roomS secS; omega
   rcases ho with ⟨e2, h1⟩ | ⟨left', nn', s', e2, h1, h2, h3⟩ | ⟨h0, _⟩
   · rw [e2]; rfl
   · exfalso
     have := h2.room.2
     rw [h1, za0, List.nil_append, hll] at this
     omega
   · omega
theorem z1gw {n : Nat} (h : 6 ≤ n ∧ n ≤ 30) {m : Nat} (hm : 65529 ≤ m ∧ m ≤ 65533) :
   z1n [[], List.replicate m 0] (1, 0, 0) [] 0 false [] (-1) ([], 0, 0) 2 false (new1 n) = some (if 65531 < m then 4 else 5, (1, 0, 0), [], 0, false, [], -1, ([], 0, 0), 2, false, new1 n) := by
 have hj := zz4 n (by omega)
 have hll : (lieS [[], List.replicate m 0]).length = m + 12 := by
   simp only [lieS, List.map_cons, List.map_nil, List.flatten_cons, List.flatten_nil, List.append_nil, zdc, z9q, List.length_replicate, List.length_append, List.length_nil]
   rw [if_pos (by omega), if_neg (by omega)]
   omega
 have hok : OkL [[], List.replicate m 0] := ⟨by simp, fun x hx => by
   simp only [List.mem_cons, List.not_mem_nil, or_false] at hx
   rcases hx with rfl | rfl
   · exact zn8
   · exact zul m, by omega⟩
 by_cases hlong : 65531 < m
 · rw [if_pos hlong]
   have e := z12c hj.dv (by omega) (by simp only; rw [za0]; omega) (j := ((1, 0, 0), [], 0, false)) ⟨by decide, by decide⟩ hok
   refine e.trans ?_
   unfold zvm
   rw [if_neg (by simp), if_pos ⟨List.replicate m 0, by simp, by rw [List.length_replicate]; exact hlong⟩]
   rfl
 · rw [if_neg hlong]
   obtain ⟨r, e, ho⟩ := z1h6 hj (by omega) (by decide) hok (by
     rintro ⟨x, hx, h2⟩
     simp only [List.mem_cons, List.not_mem_nil, or_false] at hx
     rcases hx with rfl | rfl
     · simp at h2
     · rw [List.length_replicate] at h2; omega)
   refine e.trans ?_
   have hr := zz5 n (by omega)
   have hr2 : roomS n ≤ 3584 := by unfold roomS secS; omega
   rcases ho with ⟨e2, h1⟩ | ⟨left', nn', s', e2, h1, h2, h3⟩ | ⟨h0, _⟩
   · rw [e2]; rfl
   · exfalso
     have := h2.room.2
     rw [h1, za0, hll] at this
     omega
   · omega
theorem z19j : OkL [[]] := ⟨by simp, fun x hx => by rw [List.mem_singleton.1 hx]; exact zn8, by simp [lieS, zdc, z9q]⟩
theorem z1ig : ¬ longL [[]] := by rintro ⟨x, hx, h2⟩; rw [List.mem_singleton.1 hx] at h2; simp at h2
theorem z1af {n : Nat} (h : 6 ≤ n ∧ n ≤ 5000) : Dv 3 ([], -1, ([], 0, 0), 2, true, new1 n) := by
 have hj := (zz4 n h).dv
 exact ⟨⟨hj.ok.d, hj.ok.l, hj.ok.left, hj.ok.c, hj.ok.n, hj.ok.s⟩, hj.l, hj.n, hj.k, hj.bs, hj.bw⟩
theorem z1pa {n : Nat} (h : 6 ≤ n ∧ n ≤ 30) :
   z0v [[]] (1, 0, 0) [] 0 false [] (-1) ([], 0, 0) 2 true (new1 n) = some (6, (1, 0, 0), [], 0, true, [], -1, ([], 0, 0), 2, true, new1 n) := by
 have hlen := za0 n
 have e := z14i (z1af (n := n) (by omega)) (by omega) (by simp only; omega) (j := ((1, 0, 0), [], 0, false)) ⟨by decide, by decide⟩ zn8 (by simp) (by decide) z19j
 refine e.trans ?_
 have hl5 : (lieS [[]]).length = 5 := by simp [lieS, zdc, z9q]
 have hr := zz5 n (by omega)
 unfold addJ
 rw [if_neg (by simp), if_neg z1ig, if_neg (by simp)]
 unfold layJ
 simp only [List.nil_append]
 rw [if_neg (by rw [hlen, hl5]; omega), hl5]
 have hw : layW (baseS (new1 n).length 0) (lieS [[]]) (clS 5 - (List.length ([] : List Int)) / 256) ((List.length ([] : List Int)) / 256) ([], -1, ([], 0, 0), 2, true, new1 n) = (6, ([], -1, ([], 0, 0), 2, true, new1 n)) := by
   show layW _ _ 1 0 _ = _
   have hwr : z1q ([], -1, ([], 0, 0), 2, true, new1 n) (baseS (new1 n).length 0 + ((0 : Nat) : Int)) (blkS (lieS [[]]) 0) = (6, ([], -1, ([], 0, 0), 2, true, new1 n)) := by
     unfold z1q
     have hy : whyS true (new1 n).length (baseS (new1 n).length 0 + ((0 : Nat) : Int)) = 6 := rfl
     simp only
     rw [hy, if_pos (by decide)]
   rw [z1bs (by rw [hwr]; exact fun h => absurd h (by decide : ¬ (6 : Int) = 0)), hwr]
 rw [hw]
 simp only
 rw [if_pos (by decide)]
 rfl
theorem z1id {n : Nat} (h : 6 ≤ n ∧ n ≤ 30) :
   z0v [[]] (1, 0, 0) [] 0 true [] (-1) ([], 0, 0) 2 true (new1 n) = some (3, (1, 0, 0), [], 0, true, [], -1, ([], 0, 0), 2, true, new1 n) := by
 have hlen := za0 n
 have e := z14i (z1af (n := n) (by omega)) (by omega) (by simp only; omega) (j := ((1, 0, 0), [], 0, true)) ⟨by decide, by decide⟩ zn8 (by simp) (by decide) z19j
 refine e.trans ?_
 unfold addJ
 rw [if_pos rfl]; rfl
theorem z1cd {n : Nat} (h : 6 ≤ n ∧ n ≤ 30) :
   z1n [[]] (1, 0, 0) [] 0 true [] (-1) ([], 0, 0) 2 true (new1 n) = some (3, (1, 0, 0), [], 0, true, [], -1, ([], 0, 0), 2, true, new1 n) := by
 have hlen := za0 n
 have e := z12c (z1af (n := n) (by omega)) (by omega) (by simp only; omega) (j := ((1, 0, 0), [], 0, true)) ⟨by decide, by decide⟩ z19j
 refine e.trans ?_
 unfold zvm
 rw [if_pos rfl]; rfl
theorem z1kq (n long : Int) : zl5 n long = some true := by
 unfold zl5
 rw [z1oa]
 simp only [Option.bind_some, Bool.not_true, cond_false]
 by_cases h1 : n < 1
 · rw [ltI_t h1]; rfl
 rw [ltI_f h1]
 by_cases h30 : 30 < n
 · rw [ltI_t h30]; rfl
 rw [ltI_f h30, z1ls n (by omega)]
 simp only [Option.bind_some, cond_false, Sum.elim_inr, beq_self, cond_true]
 by_cases h6 : n < 6
 · have := z1j4 (x := ([], -1, ([], 0, 0), 0, false, List.replicate n.toNat (List.replicate 256 0))) (by show (List.replicate n.toNat _).length < 6; rw [List.length_replicate]; omega)
   simp only at this
   rw [this]
   simp only [Option.bind_some, cond_false, Sum.elim_inr, Sum.elim_inl, beq_self, cond_true, z1g4, z1hv, z16v, zjd, zps, z1f8, z1hx, z1ah, Bool.not_true]
   rw [z0n (by simp), ltI_t h6]
   simp only [cond_true, cond_false, List.length_nil, z1f]
   rfl
 · have hn : 6 ≤ n.toNat ∧ n.toNat ≤ 30 := by omega
   rw [z1gj n.toNat (by omega)]
   simp only [Option.bind_some, cond_false, Sum.elim_inr, Sum.elim_inl, beq_self, cond_true, z1g4, z1hv, z16v, zjd, zps, z1f8, z1hx, z1ah, Bool.not_true]
   rw [z0n (by simp), ltI_f h6]
   have hm : 0 ≤ Int.tmod (WU64 long) 5 ∧ Int.tmod (WU64 long) 5 ≤ 4 := by
     have : 0 ≤ WU64 long := by
       show 0 ≤ IntKind.u64.wrap long
       simp [IntKind.wrap, IntKind.bits, IntKind.signed]; omega
     rw [Int.tmod_eq_emod_of_nonneg this]; omega
   generalize Int.tmod (WU64 long) 5 = q at *
   rw [z1e (n := q) (by omega), z1e (n := 65529 + q) (by omega)]
   obtain ⟨m, hmm⟩ : ∃ m : Nat, 65529 + q = (m : Int) := ⟨(65529 + q).toNat, by omega⟩
   have hm2 : 65529 ≤ m ∧ m ≤ 65533 := by omega
   rw [hmm]
   have key : ∀ {R : Type} (k : Int × Int × Int × (List (Int × List Int)) × Int × (List Int × Int × Int) × Int × Bool × (Int × Int × Int) × (List Int) × Int × Bool × (List (List Int)) → Option R) (a b c : Int) (L : List (Int × List Int)) (d2 : Int) (d3 : List Int × Int × Int) (d4 : Int) (d5 : Bool) (t : Int × Int × Int) (dt : List Int) (cn : Int) (br : Bool) (s : List (List Int)),
       (bif ltI 65531 (m : Int) then some (a, b, (4 : Int), L, d2, d3, d4, d5, t, dt, cn, br, s) else some (a, b, (5 : Int), L, d2, d3, d4, d5, t, dt, cn, br, s)).bind k = k (a, b, (if 65531 < m then 4 else 5), L, d2, d3, d4, d5, t, dt, cn, br, s) := fun k a b c L d2 d3 d4 d5 t dt cn br s => by
     by_cases h : 65531 < m
     · rw [ltI_t (by omega), if_pos h]; rfl
     · rw [ltI_f (by omega), if_neg h]; rfl
   have ha0 := z1nx (zz4 n.toNat (by omega)) (by omega)
   rw [show (lieS [] : List Int) = [] from rfl, show ((List.length ([] : List (List Int)) : Nat) : Int) = 0 from rfl] at ha0
   simp only [cond_false, List.length_nil]
   rw [key _ _ _ 0]
   simp only [zjd, cond_false]
   rw [ha0]
   simp only [Option.bind_some, zjd, cond_false, z1f, beq_self, cond_true]
   rw [z17b (new1 n.toNat) ([], -1, ([], 0, 0), 2, false, new1 n.toNat)]
   simp only [Option.bind_some, zjd, cond_false]
   rw [z1c5 (by omega) (by omega), zf3 _ _ (by rw [List.length_replicate]), Int.toNat_natCast, z1p7 hn hm2]
   simp only [Option.bind_some, zjd, cond_false, beq_self, cond_true]
   rw [z1c5 (by omega) (by omega), zf3 _ _ (by rw [List.length_replicate]), z1gw hn hm2]
   simp only [Option.bind_some, zjd, cond_false, beq_self, cond_true, z1f]
   rw [z17b (new1 n.toNat) ([], -1, ([], 0, 0), 2, false, new1 n.toNat)]
   simp only [Option.bind_some, zjd, cond_false]
   rw [z1mq _ _ (by simp) _ _ _ _ (z11j n.toNat (by omega)).l]
   have hoff := z1o5 (z1af (n := n.toNat) (by omega)) rfl (by simp only; rw [za0]; omega)
   simp only at hoff
   simp only [Option.bind_some, Bool.false_eq_true, if_false, beq_self, cond_true]
   rw [hoff]
   simp only [Option.bind_some, Sum.elim_inl, beq_self, cond_true, zps]
   rw [z1pa hn]
   simp only [Option.bind_some, Sum.elim_inl, beq_self, cond_true, zps, z1f]
   unfold z2w
   simp only [Option.bind_some, cond_true]
   rw [z1id hn]
   simp only [Option.bind_some, beq_self, cond_true, zps]
   rw [z1cd hn]
   simp only [Option.bind_some, zps]
   rfl
end Go.Proofs.Ytpfjfldagldgnaa