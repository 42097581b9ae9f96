import Derived.Test.YtomgkgngbpnngaaDoorCdEtoCdC
set_option maxRecDepth 100000
set_option linter.unusedVariables false
set_option linter.unusedSimpArgs false
namespace Go.Proofs.YtomgkgngbpnngaaDoor
open Go.Tm Go.Ab Go.Lib
def cutI (c : Int) : List Int → List Int × List Int × Bool
 | [] => ([], [], false)
 | x :: l => if x = c then ([], l, true) else (x :: (cutI c l).1, (cutI c l).2.1, (cutI c l).2.2)
theorem zt9 (c : Int) : ∀ (s : List Int), (∀ x, x ∈ s → x ≠ c) → cutI c s = (s, [], false)
 | [], _ => rfl
 | x :: l, h => by rw [cutI, if_neg (h x (by simp)), zt9 c l fun y hy => h y (by simp [hy])]
theorem ze5 (c : Int) : ∀ (s : List Int), ((∀ x, x ∈ s → x ≠ c) ∧ cutI c s = (s, [], false)) ∨ ∃ a b, (∀ x, x ∈ a → x ≠ c) ∧ s = a ++ c :: b ∧ cutI c s = (a, b, true)
 | [] => .inl ⟨(by intro x h; cases h), rfl⟩
 | y :: l => by
   by_cases h : y = c
   · subst h
     exact .inr ⟨[], l, (by intro x h; cases h), rfl, by simp [cutI]⟩
   · rcases ze5 c l with ⟨h1, h2⟩ | ⟨a, b, h1, h2, h3⟩
     · have hm : ∀ x, x ∈ y :: l → x ≠ c := fun x hx => by
         rcases List.mem_cons.1 hx with rfl | hx
         · exact h
         · exact h1 x hx
       exact .inl ⟨hm, zt9 c _ hm⟩
     · refine .inr ⟨y :: a, b, fun x hx => ?_, by rw [h2]; rfl, ?_⟩
       · rcases List.mem_cons.1 hx with rfl | hx
         · exact h
         · exact h1 x hx
       · rw [cutI, if_neg h, h3]
theorem zpu {c : Int} (hc : 0 ≤ c ∧ c < 256) : ∀ (s : List Int), Bs s → (∀ x, x ∈ s → x ≠ c) → indexByte (s.map b8) (b8 c) = -1
 | [], _, _ => rfl
 | x :: l, hb, h => by
   have ih := zpu hc l (fun y hy => hb y (by simp [hy])) fun y hy => h y (by simp [hy])
   have hne : (b8 x == b8 c) = false := by
     rw [beq_eq_false_iff_ne]
     exact fun e => h x (by simp) (zin (hb x (by simp)) hc e)
   rw [List.map_cons, indexByte, hne, ih]; rfl
theorem zm9 {c : Int} (hc : 0 ≤ c ∧ c < 256) : ∀ (a b : List Int), Bs a → (∀ x, x ∈ a → x ≠ c) → indexByte ((a ++ c :: b).map b8) (b8 c) = a.length
 | [], b, _, _ => by simp [indexByte]
 | x :: a, b, hb, h => by
   have ih := zm9 hc a b (fun y hy => hb y (by simp [hy])) fun y hy => h y (by simp [hy])
   have hne : (b8 x == b8 c) = false := by
     rw [beq_eq_false_iff_ne]
     exact fun e => h x (by simp) (zin (hb x (by simp)) hc e)
   rw [List.cons_append, List.map_cons, indexByte, hne, ih]
   have : (((a.length : Nat) : Int) == -1) = false := by rw [beq_eq_false_iff_ne]; omega
   rw [this]
   simp
theorem zyz (s : List Int) (c : Int) : ziw s c = indexByte (s.map b8) (b8 c) := by
 unfold ziw
 rw [show (ba s).data.toList = s.map b8 from zdi s]
 rfl
theorem z11l {s : List Int} {c : Int} (hl : s.length ≤ 1000) : z3z s [c] = some (indexByte (s.map b8) (b8 c)) := by
 have hI : z3d s c = some (indexByte (s.map b8) (b8 c)) := by
   unfold z3d
   rw [z3i (by omega), zyz]
 unfold z3z
 have e1 : idxI [c] 0 = some c := rfl
 have e2 : eqI (([c] : List Int).length : Nat) 0 = false := rfl
 have e3 : eqI (([c] : List Int).length : Nat) 1 = true := rfl
 have e4 : eqS [c] s = true → s = [c] := fun h => (of_decide_eq_true h).symm
 rw [z3i (by simp), e2]
 simp only [cond_false, Option.bind_some, e1, e3, cond_true, hI]
 cases h : eqS [c] s with
 | false => rfl
 | true =>
   rw [e4 h]
   simp [indexByte]
theorem zyi {s : List Int} {c : Int} (hb : Bs s) (hc : 0 ≤ c ∧ c < 256) (hl : s.length ≤ 1000) : zb3 s [c] = some (cutI c s) := by
 have key : z4h s [c] = some (cutI c s) := by
   unfold z4h
   rw [z11l hl]
   simp only [Option.bind_some]
   rcases ze5 c s with ⟨h1, h2⟩ | ⟨a, b, h1, h2, h3⟩
   · rw [zpu hc s hb h1, h2]; rfl
   · have hba : Bs a := fun x hx => hb x (by rw [h2]; simp [hx])
     have hlen : s.length = a.length + (b.length + 1) := by rw [h2]; simp
     have hi : indexByte (s.map b8) (b8 c) = a.length := by
       have := zm9 hc a b hba h1
       rw [← h2] at this
       exact this
     rw [hi, h3, leI_t (by omega), cond_true, zlz (by omega), cond_true, z3i (by simp), zp6 (by simp; omega)]
     have e : ((a.length : Int) + ((([c] : List Int).length : Nat) : Int)) = ((a.length + 1 : Nat) : Int) := by simp
     rw [e, zlz (by omega), cond_true]
     have g1 : subL s 0 (a.length : Int) = a := by simp [subL, h2]
     have g2 : subL s ((a.length + 1 : Nat) : Int) (s.length : Int) = b := by
       simp only [subL, Int.toNat_natCast]
       rw [hlen, h2, List.drop_append, List.drop_eq_nil_of_le (by omega), List.nil_append, show a.length + 1 - a.length = 1 by omega]
       simp only [List.drop_succ_cons, List.drop_zero]
       exact List.take_of_length_le (by omega)
     rw [g1, g2]
 unfold zb3
 rw [key]; rfl
def lostI : List Int := [108, 111, 115, 116, 43, 102, 111, 117, 110, 100]
def partI (s : List Int) : Bool := decide (s = lostI) || (nameI (cutI 126 s).1 && (!(cutI 126 s).2.2 || ((cutI 46 (cutI 126 s).2.1).2.2 && canon (cutI 46 (cutI 126 s).2.1).1 && canon (cutI 46 (cutI 126 s).2.1).2.1)))
theorem zze {c : Int} {s : List Int} (hb : Bs s) : Bs (cutI c s).1 ∧ Bs (cutI c s).2.1 ∧ (cutI c s).1.length ≤ s.length ∧ (cutI c s).2.1.length ≤ s.length := by
 rcases ze5 c s with ⟨_, h2⟩ | ⟨a, b, _, h2, h3⟩
 · rw [h2]
   exact ⟨hb, (by intro x h; cases h), Nat.le_refl _, Nat.zero_le _⟩
 · rw [h3]
   exact ⟨fun x hx => hb x (by rw [h2]; simp [hx]), fun x hx => hb x (by rw [h2]; simp [hx]), by rw [h2]; simp, by rw [h2]; simp; omega⟩
theorem z14p {s : List Int} (hb : Bs s) (hl : s.length ≤ 1000) : zh5 s = some (partI s) := by
 obtain ⟨b1, b2, b3, b4⟩ := zze (c := 126) hb
 obtain ⟨d1, d2, d3, d4⟩ := zze (c := 46) b2
 unfold zh5 partI
 rw [zyi hb (by decide) hl]
 simp only [Option.bind_some]
 rw [zxd b1 (by omega)]
 simp only [Option.bind_some]
 rw [zyi b2 (by decide) (by omega)]
 simp only [Option.bind_some]
 rw [zlh d1 (by omega), zlh d2 (by omega)]
 simp only [Option.bind_some]
 by_cases h0 : s = lostI
 · have : eqS s ([108, 111, 115, 116, 43, 102, 111, 117, 110, 100] : List Int) = true := eqS_t h0
   rw [this, decide_eq_true h0]; rfl
 · have : eqS s ([108, 111, 115, 116, 43, 102, 111, 117, 110, 100] : List Int) = false := eqS_f h0
   rw [this, decide_eq_false h0]
   cases nameI (cutI 126 s).1 <;> cases (cutI 126 s).2.2 <;> cases (cutI 46 (cutI 126 s).2.1).2.2 <;> cases canon (cutI 46 (cutI 126 s).2.1).1 <;> cases canon (cutI 46 (cutI 126 s).2.1).2.1 <;> rfl
end Go.Proofs.YtomgkgngbpnngaaDoor
set_option maxRecDepth 100000
set_option linter.unusedVariables false
set_option linter.unusedSimpArgs false
namespace Go.Proofs.YtomgkgngbpnngaaDoor
open Go.Tm Go.Ab Go.Lib
def z3y (c : Int) : List Int → List (List Int)
 | [] => [[]]
 | x :: l => if x = c then [] :: z3y c l else match z3y c l with
   | [] => [[x]]
   | p :: ps => (x :: p) :: ps
theorem zhn (c : Int) : ∀ (s : List Int), (∀ x, x ∈ s → x ≠ c) → z3y c s = [s]
 | [], _ => rfl
 | x :: l, h => by rw [z3y, if_neg (h x (by simp)), zhn c l fun y hy => h y (by simp [hy])]
theorem zjc (c : Int) : ∀ (a b : List Int), (∀ x, x ∈ a → x ≠ c) → z3y c (a ++ c :: b) = a :: z3y c b
 | [], b, _ => by simp [z3y]
 | x :: a, b, h => by rw [List.cons_append, z3y, if_neg (h x (by simp)), zjc c a b fun y hy => h y (by simp [hy])]
theorem zrn (c : Int) : ∀ (n : Nat) (s : List Int), s.length ≤ n → Bs s → ∀ p, p ∈ z3y c s → Bs p ∧ p.length ≤ s.length
 | n, s, hn, hb, p, hp => by
   rcases ze5 c s with ⟨h1, _⟩ | ⟨a, b, h1, h2, _⟩
   · rw [zhn c s h1] at hp
     simp at hp; subst hp
     exact ⟨hb, Nat.le_refl _⟩
   · rw [h2, zjc c a b h1] at hp
     have hl : s.length = a.length + (b.length + 1) := by rw [h2]; simp
     rcases List.mem_cons.1 hp with rfl | hp
     · exact ⟨fun x hx => hb x (by rw [h2]; simp [hx]), by omega⟩
     · match n, hn with
       | 0, hn => omega
       | n + 1, hn =>
         have := zrn c n b (by omega) (fun x hx => hb x (by rw [h2]; simp [hx])) p hp
         exact ⟨this.1, by omega⟩
theorem zmw {s : List Int} (hb : Bs s) : nums (s.map b8) = s := by
 unfold nums
 rw [List.map_map]
 conv => rhs; rw [← List.map_id s]
 exact List.map_congr_left fun x hx => za9 (hb x hx)
theorem zrl {c : Int} (hc : 0 ≤ c ∧ c < 256) : ∀ (n : Nat) (s : List Int), s.length ≤ n → Bs s → (splitK [b8 c] 0 ((s.map b8).count (b8 c)) (s.map b8)).map nums = z3y c s
 | n, s, hn, hb => by
   rcases ze5 c s with ⟨h1, _⟩ | ⟨a, b, h1, h2, _⟩
   · have hcnt : (s.map b8).count (b8 c) = 0 := by
       rw [List.count_eq_zero]
       intro hm
       obtain ⟨x, hx, e⟩ := List.mem_map.1 hm
       exact h1 x hx (zin (hb x hx) hc e)
     rw [hcnt, zhn c s h1]
     simp only [splitK, List.map_cons, List.map_nil]
     rw [zmw hb]
   · have hba : Bs a := fun x hx => hb x (by rw [h2]; simp [hx])
     have hbb : Bs b := fun x hx => hb x (by rw [h2]; simp [hx])
     have hl : s.length = a.length + (b.length + 1) := by rw [h2]; simp
     have hca : (a.map b8).count (b8 c) = 0 := by
       rw [List.count_eq_zero]
       intro hm
       obtain ⟨x, hx, e⟩ := List.mem_map.1 hm
       exact h1 x hx (zin (hba x hx) hc e)
     have hcnt : (s.map b8).count (b8 c) = (b.map b8).count (b8 c) + 1 := by
       rw [h2, List.map_append, List.count_append, hca, List.map_cons, List.count_cons]
       simp
     have hi : index (s.map b8) [b8 c] = a.length := by
       rw [index_one, h2]
       exact zm9 hc a b hba h1
     have hne : (index (s.map b8) [b8 c] == -1) = false := by rw [hi, beq_eq_false_iff_ne]; omega
     rw [hcnt]
     conv => rhs; rw [h2]
     rw [zjc c a b h1, splitK, hne, hi]
     have e1 : (s.map b8).take (((a.length : Nat) : Int).toNat + 0) = a.map b8 := by
       rw [h2, List.map_append, Int.toNat_natCast, Nat.add_zero]
       exact List.take_left' (by simp)
     have e2 : (s.map b8).drop (((a.length : Nat) : Int).toNat + [b8 c].length) = b.map b8 := by
       rw [h2, List.map_append, List.map_cons, Int.toNat_natCast, List.length_singleton, List.drop_append, List.drop_eq_nil_of_le (by simp), List.nil_append]
       simp
     simp only [Bool.false_eq_true, if_false]
     rw [e1, e2, List.map_cons, zmw hba]
     match n, hn with
     | 0, hn => omega
     | n + 1, hn => rw [zrl hc n b (by omega) hbb]
theorem zy3 {c : Int} (hc : 0 ≤ c ∧ c < 256) {s : List Int} (hb : Bs s) : zem c s = z3y c s := by
 rw [← zrl hc s.length s (Nat.le_refl _) hb]
 unfold zem
 have e0 : (ba s).data.toList = s.map b8 := zdi s
 have e1 : countB (ba s) ⟨#[c.toNat.toUInt8]⟩ = (s.map b8).count (b8 c) := by
   have : countB (ba s) ⟨#[c.toNat.toUInt8]⟩ = count (ba s).data.toList [b8 c] := rfl
   rw [this, count_one, e0]
 rw [e1, show (fun b : ByteArray => nums b.data.toList) = nums ∘ (fun b : ByteArray => b.data.toList) from rfl, ← List.map_map]
 congr 1
 have := splitB_data ⟨#[c.toNat.toUInt8]⟩ 0 ((s.map b8).count (b8 c)) (ba s)
 rw [e0] at this
 exact this
theorem zpr (c : Int) : ∀ (s : List Int), (z3y c s).length ≤ s.length + 1
 | [] => Nat.le_refl _
 | x :: l => by
   have := zpr c l
   rw [z3y]
   split
   · simp; omega
   · split <;> simp_all
     omega
def z2c (s : List Int) : List (List Int) × Int :=
 if 120 < s.length ∨ s.head? ≠ some 47 then ([], 20)
 else if s = [47] then ([], 0)
 else if 10 < (z3y 47 s.tail).length ∨ (z3y 47 s.tail).all partI = false then ([], 20)
 else (z3y 47 s.tail, 0)
theorem zzr {s : List Int} (hl : s.length ≤ 1000) : z7t s [47] = some (decide (s.head? = some 47)) := by
 unfold z7t z4j
 cases s with
 | nil => rfl
 | cons x l =>
   have hlen : (x :: l).length = l.length + 1 := rfl
   rw [z3i (by omega), z3i (by simp), leI_t (by simp; omega), cond_true, z3i (by simp), zlz (by simp; omega)]
   have : subL (x :: l) 0 ((([47] : List Int).length : Nat) : Int) = [x] := by simp [subL]
   rw [this]
   simp only [cond_true, Option.bind_some, Option.some.injEq]
   rw [Bool.eq_iff_iff, decide_eq_true_eq, decide_eq_true_eq]
   simp
theorem zgd {s : List Int} (hb : Bs s) (hl : s.length ≤ 1000) : z8q s = some (z2c s) := by
 refine ok_is ?_
 unfold z8q z2c
 rw [zzr hl]
 repeat' first
   | (dsimp only [Int.toNat_natCast, List.length_nil])
   | with_reducible first | refine zih ?_ | refine zj1 ?_ | refine z4e ?_ | refine ziv ?_ | refine zfz ?_ | refine zm5 ?_ | refine qs ?_ | refine qb ?_ | refine zli ?_ | refine qw ?_ | refine zm4 ?_ | refine zm6 ?_ | refine qi ?_ | refine qg (h := ?_) | refine qx (h := ?_) | refine qy (h := ?_) | refine qa ?_ | refine qc ?_ | refine ql ?_ | refine qp ?_ | refine zi5 ?_ | rfl
   | (with_reducible first | refine ok_lt ?_ ?_ | refine ok_le ?_ ?_ | refine zlp ?_ ?_ | refine zlb ?_ ?_ | refine zme ?_ ?_ | refine qu ?_ ?_ | refine ok_if ?_ ?_) <;> intro _ <;> try (exfalso; omega)
 · rw [if_pos (.inl (by omega))]
 · rename_i h0 h1 h2
   have h1 := of_decide_eq_true h1
   rw [if_neg (by rintro (h | h); omega; exact h h1), if_pos h2]
 · rename_i h0 h1 h2 _
   have h1 := of_decide_eq_true h1
   rw [if_neg (by rintro (h | h); omega; exact h h1), if_neg h2]
   have htl : subL s 1 (s.length : Int) = s.tail := by
     simp [subL, List.take_of_length_le]
   have hbt : Bs s.tail := fun x hx => hb x (List.mem_of_mem_tail hx)
   have hS : zbz (subL s 1 (s.length : Int)) [47] = some (z3y 47 s.tail) := by
     rw [htl]
     unfold zbz
     dsimp only
     rw [ble_t (by rw [List.length_tail]; omega), zy3 (by decide) hbt]; rfl
   rw [hS]
   have hpl : ∀ p, p ∈ z3y 47 s.tail → Bs p ∧ p.length ≤ s.tail.length := zrn 47 _ _ (Nat.le_refl _) hbt
   have hlen := zpr 47 s.tail
   have hlt : s.tail.length ≤ 1000 := by rw [List.length_tail]; omega
   generalize z3y 47 s.tail = l at *
   repeat' first
     | (dsimp only [Int.toNat_natCast, List.length_nil])
     | with_reducible first | refine zih ?_ | refine zj1 ?_ | refine z4e ?_ | refine ziv ?_ | refine zfz ?_ | refine zm5 ?_ | refine qs ?_ | refine qb ?_ | refine zli ?_ | refine qw ?_ | refine zm4 ?_ | refine zm6 ?_ | refine qi ?_ | refine qg (h := ?_) | refine qx (h := ?_) | refine qy (h := ?_) | refine qa ?_ | refine qc ?_ | refine ql ?_ | refine qp ?_ | refine zi5 ?_ | rfl
     | (with_reducible first | refine ok_lt ?_ ?_ | refine ok_le ?_ ?_ | refine zlp ?_ ?_ | refine zlb ?_ ?_ | refine zme ?_ ?_ | refine qu ?_ ?_ | refine ok_if ?_ ?_) <;> intro _ <;> try (exfalso; omega)
   · rw [if_pos (.inl (by omega))]
   · rename_i h4
     have hloop : loopC z0u (l, l, (l.length : Int), 0) = some (if (l.any fun x => !partI x) = true then .inr ([], 20) else .inl l) := by
       refine zrt _ l (fun i => (l, l, (l.length : Int), (i : Int))) (fun x => !partI x) _ _ ?_ fun i hi => ?_
       · unfold z0u z4r
         dsimp only
         rw [ltI_f (by omega)]; rfl
       · unfold z0u z4r
         dsimp only
         obtain ⟨b1, b2⟩ := hpl l[i] (List.getElem_mem hi)
         rw [ltI_t (by omega), cond_true, z6m hi]
         simp only [Option.bind_some]
         rw [z14p b1 (by omega)]
         simp only [Option.bind_some]
         rw [z9g (by omega)]
         cases partI l[i] <;> rfl
     rw [hloop]
     have hany : (l.any fun x => !partI x) = !(l.all partI) := by rw [List.not_all_eq_any_not]
     rw [hany]
     cases hall : l.all partI with
     | true =>
       refine z4e (z4e ?_)
       rw [if_neg (by simp; omega)]
     | false =>
       refine z4e (z4e ?_)
       rw [if_pos (Or.inr rfl)]
 · rename_i h0 h1 h2 h3
   exfalso
   have h1 := of_decide_eq_true h1
   have hpos : 1 ≤ s.length := by
     cases s with
     | nil => simp at h1
     | cons x l => simp
   rw [zlz (by omega)] at h3
   cases h3
 · rename_i h0 h1
   have h1 := of_decide_eq_false h1
   rw [if_pos (.inr h1)]
end Go.Proofs.YtomgkgngbpnngaaDoor
set_option maxRecDepth 100000
set_option linter.unusedVariables false
set_option linter.unusedSimpArgs false
namespace Go.Proofs.YtomgkgngbpnngaaDoor
open Go.Tm Go.Ab Go.Lib
def diff (a b : List (List Int)) (n : Nat) : Bool := (List.range n).any fun i => !decide (a[i]? = b[i]?)
theorem zfg {a b : List (List Int)} {n : Nat} : diff a b n = false ↔ ∀ i, i < n → a[i]? = b[i]? := by
 unfold diff
 rw [List.any_eq_false]
 constructor
 · intro h i hi
   have := h i (List.mem_range.2 hi)
   simpa using this
 · intro h i hi
   simp [h i (List.mem_range.1 hi)]
theorem z12z {a b : List (List Int)} (hl : a.length = b.length) : diff a b a.length = !decide (a = b) := by
 by_cases h : a = b
 · subst h
   rw [decide_eq_true rfl, zfg.2 fun _ _ => rfl]; rfl
 · rw [decide_eq_false h]
   cases hd : diff a b a.length with
   | true => rfl
   | false =>
     exfalso
     apply h
     rw [zfg] at hd
     apply List.ext_getElem? 
     intro i
     by_cases hi : i < a.length
     · exact hd i hi
     · rw [List.getElem?_eq_none (by omega), List.getElem?_eq_none (by omega)]
theorem zk3 {a b : List (List Int)} : b.isPrefixOf a = true ↔ b.length ≤ a.length ∧ ∀ i, i < b.length → a[i]? = b[i]? := by
 rw [List.isPrefixOf_iff_prefix]
 constructor
 · rintro ⟨t, rfl⟩
   exact ⟨by simp, fun i hi => by rw [List.getElem?_append_left hi]⟩
 · rintro ⟨h1, h2⟩
   refine ⟨a.drop b.length, ?_⟩
   conv => rhs; rw [← List.take_append_drop b.length a]
   congr 1
   apply List.ext_getElem?
   intro i
   rw [List.getElem?_take]
   split
   · rename_i hi; exact (h2 i hi).symm
   · rename_i hi; exact List.getElem?_eq_none (by omega)
theorem zv9 {a b : List (List Int)} (hl : b.length ≤ a.length) : diff a b b.length = !b.isPrefixOf a := by
 cases hd : diff a b b.length with
 | false =>
   have := zk3.2 ⟨hl, zfg.1 hd⟩
   rw [this]; rfl
 | true =>
   cases hp : b.isPrefixOf a with
   | false => rfl
   | true =>
     have := zfg.2 (zk3.1 hp).2
     rw [this] at hd; cases hd
def z1w (s top : List Int) : Bool := decide ((z2c s).2 = 0) && decide ((z2c top).2 = 0) && (z2c top).1.isPrefixOf (z2c s).1
theorem zri (s : List Int) : (z2c s).1.length ≤ 10 := by
 unfold z2c
 split
 · exact Nat.zero_le _
 · split
   · exact Nat.zero_le _
   · split
     · exact Nat.zero_le _
     · rename_i h; simp only [not_or] at h; exact Nat.le_of_not_lt h.1
theorem zm0 {s top : List Int} (hs : Bs s) (ht : Bs top) (ls : s.length ≤ 1000) (lt : top.length ≤ 1000) : z7n s top = some (z1w s top) := by
 refine ok_is ?_
 unfold z7n z1w
 rw [zgd hs ls, zgd ht lt]
 have l1 := zri s
 have l2 := zri top
 generalize z2c s = A at *
 generalize z2c top = B at *
 repeat' first
   | (dsimp only [Int.toNat_natCast, List.length_nil])
   | with_reducible first | refine zih ?_ | refine zj1 ?_ | refine z4e ?_ | refine ziv ?_ | refine zfz ?_ | refine zm5 ?_ | refine qs ?_ | refine qb ?_ | refine zli ?_ | refine qw ?_ | refine zm4 ?_ | refine zm6 ?_ | refine qi ?_ | refine qg (h := ?_) | refine qx (h := ?_) | refine qy (h := ?_) | refine qa ?_ | refine qc ?_ | refine ql ?_ | refine qp ?_ | refine zi5 ?_ | rfl
   | (with_reducible first | refine ok_lt ?_ ?_ | refine ok_le ?_ ?_ | refine zlp ?_ ?_ | refine zlb ?_ ?_ | refine zme ?_ ?_ | refine qu ?_ ?_ | refine ok_if ?_ ?_) <;> intro _ <;> try (exfalso; omega)
 · rename_i h1 h2 h3
   rw [h1, h2]
   have : B.1.isPrefixOf A.1 = false := by
     cases hp : B.1.isPrefixOf A.1 with
     | false => rfl
     | true => have := (zk3.1 hp).1; omega
   rw [this]; rfl
 · rename_i h1 h2 h3
   rw [h1, h2]
   have hle : B.1.length ≤ A.1.length := by omega
   have hloop : loopC z0w (A.1, B.1, (B.1.length : Int), 0) = some (if diff A.1 B.1 B.1.length = true then .inr false else .inl ()) := by
     refine zos _ B.1.length (fun i => (A.1, B.1, (B.1.length : Int), (i : Int))) (fun i => !decide (A.1[i]? = B.1[i]?)) _ _ ?_ fun i hi => ?_
     · unfold z0w z4y
       dsimp only
       rw [ltI_f (by omega)]; rfl
     · unfold z0w z4y
       dsimp only
       rw [ltI_t (by omega), cond_true, z6m hi, z6m (show i < A.1.length by omega), z9g (by omega)]
       simp only [Option.bind_some]
       rw [getE hi, getE (show i < A.1.length by omega)]
       by_cases e : A.1[i] = B.1[i]
       · rw [eqS_t e, decide_eq_true (by rw [e])]; rfl
       · rw [eqS_f e, decide_eq_false (fun h => e (Option.some.inj h))]; rfl
   rw [hloop, zv9 hle]
   cases B.1.isPrefixOf A.1 <;> exact z4e (z4e rfl)
 · rename_i h1 h2; rw [h1, decide_eq_false h2]; rfl
 · rename_i h; rw [decide_eq_false h]; rfl
end Go.Proofs.YtomgkgngbpnngaaDoor
set_option maxRecDepth 100000
set_option linter.unusedVariables false
set_option linter.unusedSimpArgs false
namespace Go.Proofs.YtomgkgngbpnngaaDoor
open Go.Tm Go.Ab Go.Lib
def joinT (l : List (List Int)) : List Int := l.flatMap fun p => 47 :: p
def joinI (l : List (List Int)) : List Int := if l = [] then [47] else joinT l
theorem zjp (p : List Int) (l : List (List Int)) : joinT (p :: l) = 47 :: (p ++ joinT l) := by simp [joinT]
theorem znr : ∀ (t : List Int), joinT (z3y 47 t) = 47 :: t
 | [] => rfl
 | x :: l => by
   have ih := znr l
   rw [z3y]
   split
   · rename_i h; subst h
     rw [zjp, ih]; rfl
   · split
     · rename_i h; rw [h] at ih; simp [joinT] at ih
     · rename_i p ps h
       rw [h, zjp] at ih
       rw [zjp, List.cons_append, (List.cons.inj ih).2]
theorem zuz {s : List Int} (h : (z2c s).2 = 0) : s = joinI (z2c s).1 := by
 unfold z2c at h ⊢
 split at h
 · cases h
 · rename_i h0
   rw [if_neg h0]
   simp only [not_or, Decidable.not_not] at h0
   split at h
   · rename_i h1; rw [if_pos h1, h1]; rfl
   · rename_i h1
     rw [if_neg h1]
     split at h
     · cases h
     · rename_i h2
       rw [if_neg h2]
       have hs : s = 47 :: s.tail := by
         cases s with
         | nil => simp at h0
         | cons x l => have := h0.2; simp at this; rw [this]; rfl
       have hj := znr s.tail
       unfold joinI
       split
       · rename_i e; dsimp only at e; rw [e] at hj; simp [joinT] at hj
       · dsimp only; rw [hj]; exact hs
end Go.Proofs.YtomgkgngbpnngaaDoor
set_option maxRecDepth 100000
set_option linter.unusedVariables false
set_option linter.unusedSimpArgs false
namespace Go.Proofs.YtomgkgngbpnngaaDoor
open Go.Tm Go.Ab Go.Lib
theorem b8_lt {x y : Int} (hx : 0 ≤ x ∧ x < 256) (hy : 0 ≤ y ∧ y < 256) : b8 x < b8 y ↔ x < y := by
 rw [UInt8.lt_iff_toNat_lt]
 have h1 := za9 hx
 have h2 := za9 hy
 omega
theorem zzb : ∀ {s t : List Int}, Bs s → Bs t → (ltS s t = true ↔ s.map b8 < t.map b8)
 | s, [], _, _ => by simp [ltS]
 | [], b :: y, _, _ => by simp [ltS]
 | a :: x, b :: y, hs, ht => by
   have ha := hs a (by simp)
   have hb := ht b (by simp)
   have ih := zzb (s := x) (t := y) (fun z hz => hs z (by simp [hz])) (fun z hz => ht z (by simp [hz]))
   have e : b8 a = b8 b ↔ a = b := ⟨zin ha hb, fun h => by rw [h]⟩
   simp only [ltS, List.map_cons, List.cons_lt_cons_iff, b8_lt ha hb, e, ← ih, Bool.or_eq_true, Bool.and_eq_true, ltI, eqI, decide_eq_true_eq]
theorem zmv : ∀ (s : List Int), ltS s s = false
 | [] => rfl
 | a :: x => by simp [ltS, ltI, zmv x]
theorem zs6 : ∀ {r s t : List Int}, ltS r s = true → ltS s t = true → ltS r t = true
 | r, s, [], _, h => by simp [ltS] at h
 | r, [], c :: z, h, _ => by simp [ltS] at h
 | [], b :: y, c :: z, _, _ => rfl
 | a :: x, b :: y, c :: z, h1, h2 => by
   simp only [ltS, Bool.or_eq_true, Bool.and_eq_true, ltI, eqI, decide_eq_true_eq] at h1 h2 ⊢
   rcases h1 with h1 | ⟨h1, g1⟩ <;> rcases h2 with h2 | ⟨h2, g2⟩
   · left; omega
   · left; omega
   · left; omega
   · right; exact ⟨by omega, zs6 g1 g2⟩
def Inc (l : List (List Int)) : Prop := l.Pairwise fun a b => ltS a b = true
theorem zom : ∀ {l m : List (List Int)}, Inc l → Inc m → (∀ x, x ∈ l ↔ x ∈ m) → l = m
 | [], [], _, _, _ => rfl
 | [], b :: m, _, _, h => absurd ((h b).2 (by simp)) (by simp)
 | a :: l, [], _, _, h => absurd ((h a).1 (by simp)) (by simp)
 | a :: l, b :: m, h1, h2, h => by
   have h1' := List.pairwise_cons.1 h1
   have h2' := List.pairwise_cons.1 h2
   have e : a = b := by
     rcases List.mem_cons.1 ((h a).1 (by simp)) with e | ha
     · exact e
     · rcases List.mem_cons.1 ((h b).2 (by simp)) with e | hb
       · exact e.symm
       · have := zs6 (h1'.1 b hb) (h2'.1 a ha)
         rw [zmv] at this; cases this
   subst e
   congr 1
   refine zom h1'.2 h2'.2 fun x => ⟨fun hx => ?_, fun hx => ?_⟩
   · rcases List.mem_cons.1 ((h x).1 (by simp [hx])) with e | hm
     · subst e; have := h1'.1 x hx; rw [zmv] at this; cases this
     · exact hm
   · rcases List.mem_cons.1 ((h x).2 (by simp [hx])) with e | hm
     · subst e; have := h2'.1 x hx; rw [zmv] at this; cases this
     · exact hm
theorem zq7 {d : Array (List UInt8)} (hd : ∀ i j, i < j → j < d.size → d[i]! ≤ d[j]!) : ∀ m, m ≤ d.size →
   (compactUpTo d m).Pairwise (· < ·) ∧ (∀ x, x ∈ compactUpTo d m ↔ ∃ j, j < m ∧ d[j]! = x)
 | 0, _ => by simp [compactUpTo]
 | m + 1, hm => by
   obtain ⟨h1, h2⟩ := zq7 hd m (by omega)
   rw [compactUpTo_succ]
   cases hk : keeps d m with
   | true =>
     rw [if_pos rfl]
     simp only [keeps, decide_eq_true_eq] at hk
     refine ⟨List.pairwise_append.2 ⟨h1, by simp, fun a ha b hb => ?_⟩, fun x => ?_⟩
     · simp at hb; subst hb
       obtain ⟨j, hj, rfl⟩ := (h2 a).1 ha
       rcases hk with hk | hk
       · omega
       · have e1 : d[m - 1]! ≤ d[m]! := hd (m - 1) m (by omega) (by omega)
         have e2 : d[j]! ≤ d[m - 1]! := by
           rcases Nat.lt_or_ge j (m - 1) with h | h
           · exact hd j (m - 1) h (by omega)
           · have : j = m - 1 := by omega
             subst this; exact List.le_refl _
         have e3 : d[m - 1]! < d[m]! := by
           rcases List.le_iff_lt_or_eq.1 e1 with h | h
           · exact h
           · exact absurd h.symm hk
         exact List.lt_of_le_of_lt e2 e3
     · rw [List.mem_append, h2]
       simp only [List.mem_singleton]
       refine ⟨?_, ?_⟩
       · rintro (⟨j, hj, rfl⟩ | rfl)
         · exact ⟨j, by omega, rfl⟩
         · exact ⟨m, by omega, rfl⟩
       · rintro ⟨j, hj, rfl⟩
         rcases Nat.lt_or_ge j m with h | h
         · exact .inl ⟨j, h, rfl⟩
         · have : j = m := by omega
           subst this; exact .inr rfl
   | false =>
     rw [if_neg (by simp), List.append_nil]
     simp only [keeps, decide_eq_false_iff_not, not_or, Decidable.not_not] at hk
     refine ⟨h1, fun x => ?_⟩
     rw [h2]
     refine ⟨fun ⟨j, hj, e⟩ => ⟨j, by omega, e⟩, fun ⟨j, hj, e⟩ => ?_⟩
     rcases Nat.lt_or_ge j m with h | h
     · exact ⟨j, h, e⟩
     · have : j = m := by omega
       subst this
       exact ⟨j - 1, by omega, by rw [← hk.2]; exact e⟩
def setL (l : List (List Int)) : List (List Int) := compL (sortL l)
theorem zg0 {l : List (List Int)} (hb : ∀ s, s ∈ l → Bs s) : Inc (setL l) ∧ ∀ x, x ∈ setL l ↔ x ∈ l := by
 have e0 : (sortL l).map byts = (l.map byts).mergeSort fun x y => decide (x ≤ y) := by
   unfold sortL
   rw [List.map_map]
   have : ∀ b : List UInt8, (byts ∘ nums) b = b := fun b => by simp [Function.comp, byts, zqy]
   rw [funext this, List.map_id']
 have srt : ((l.map byts).mergeSort fun x y => decide (x ≤ y)).Pairwise (· ≤ ·) := by
   have := List.pairwise_mergeSort (le := fun (x y : List UInt8) => decide (x ≤ y)) (fun a b c h1 h2 => by
     simp only [decide_eq_true_eq] at *; exact List.le_trans h1 h2) (fun a b => by
     simp only [Bool.or_eq_true, decide_eq_true_eq]; exact List.le_total a b) (l.map byts)
   exact this.imp fun h => by simpa using h
 have hmem : ∀ x, x ∈ ((l.map byts).mergeSort fun x y => decide (x ≤ y)) ↔ x ∈ l.map byts := fun x => (List.mergeSort_perm _ _).mem_iff
 generalize hz : ((l.map byts).mergeSort fun x y => decide (x ≤ y)) = zs at *
 have hc := zq7 (d := zs.toArray) (fun i j hij hj => by
   have hj' : j < zs.length := by simpa using hj
   rw [getElem!_pos _ i (by simp; omega), getElem!_pos _ j hj]
   simp only [List.getElem_toArray]
   exact List.pairwise_iff_getElem.1 srt i j (by omega) hj' hij) zs.length (by simp)
 have hcm : ∀ x, x ∈ compact zs ↔ x ∈ l.map byts := fun x => by
   show x ∈ compactUpTo zs.toArray zs.length ↔ _
   rw [hc.2, ← hmem]
   refine ⟨fun ⟨j, hj, e⟩ => ?_, fun h => ?_⟩
   · rw [getElem!_pos _ j (by simpa using hj)] at e
     subst e
     exact List.getElem_mem _
   · obtain ⟨j, hj, rfl⟩ := List.mem_iff_getElem.1 h
     exact ⟨j, hj, by rw [getElem!_pos _ j (by simpa using hj)]; simp⟩
 have hx : ∀ b, b ∈ l.map byts → ∃ s, s ∈ l ∧ b = s.map b8 ∧ nums b = s := fun b h => by
   obtain ⟨s, hs, rfl⟩ := List.mem_map.1 h
   exact ⟨s, hs, zdi s, by rw [zdi]; exact zmw (hb s hs)⟩
 have e1 : setL l = (compact zs).map nums := by
   unfold setL compL
   rw [e0]
 rw [e1]
 refine ⟨?_, fun x => ?_⟩
 · unfold Inc
   rw [List.pairwise_map]
   refine (List.Pairwise.imp_of_mem (fun {a b} ha hb' h => ?_) hc.1)
   obtain ⟨s, hs, ea, en⟩ := hx a ((hcm a).1 ha)
   obtain ⟨t, ht, eb, em⟩ := hx b ((hcm b).1 hb')
   rw [en, em, zzb (hb s hs) (hb t ht), ← ea, ← eb]
   exact h
 · rw [List.mem_map]
   refine ⟨fun ⟨b, h, e⟩ => ?_, fun h => ?_⟩
   · obtain ⟨s, hs, _, en⟩ := hx b ((hcm b).1 h)
     rw [← e, en]; exact hs
   · exact ⟨byts x, (hcm _).2 (List.mem_map.2 ⟨x, h, rfl⟩), by rw [zdi]; exact zmw (hb x h)⟩
end Go.Proofs.YtomgkgngbpnngaaDoor