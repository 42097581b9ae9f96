import Derived.Test.YtomgkgngbpnngaaGreatDoorCzEtoCzC
set_option maxRecDepth 100000
set_option linter.unusedVariables false
set_option linter.unusedSimpArgs false
namespace Go.Proofs.YtomgkgngbpnngaaGreatDoor
open Go.Tm Go.Ab Go.Lib
def cutI (c : Int) : List Int → List Int × List Int × Bool
 | [] => ([], [], false)
 | x :: l => if x = c then ([], l, true) else (x :: (cutI c l).1, (cutI c l).2.1, (cutI c l).2.2)
theorem zjo (c : Int) : ∀ (s : List Int), (∀ x, x ∈ s → x ≠ c) → cutI c s = (s, [], false)
 | [], _ => rfl
 | x :: l, h => by rw [cutI, if_neg (h x (by simp)), zjo c l fun y hy => h y (by simp [hy])]
theorem zwc (c : Int) : ∀ (a b : List Int), (∀ x, x ∈ a → x ≠ c) → cutI c (a ++ c :: b) = (a, b, true)
 | [], b, _ => by simp [cutI]
 | x :: a, b, h => by rw [List.cons_append, cutI, if_neg (h x (by simp)), zwc c a b fun y hy => h y (by simp [hy])]
theorem zcu (c : Int) : ∀ (s : List Int), ((∀ x, x ∈ s → x ≠ c) ∧ cutI c s = (s, [], false)) ∨ ∃ a b, (∀ x, x ∈ a → x ≠ c) ∧ s = a ++ c :: b ∧ cutI c s = (a, b, true)
 | [] => .inl ⟨(by intro x h; cases h), rfl⟩
 | y :: l => by
   by_cases h : y = c
   · subst h
     exact .inr ⟨[], l, (by intro x h; cases h), rfl, by simp [cutI]⟩
   · rcases zcu c l with ⟨h1, h2⟩ | ⟨a, b, h1, h2, h3⟩
     · have hm : ∀ x, x ∈ y :: l → x ≠ c := fun x hx => by
         rcases List.mem_cons.1 hx with rfl | hx
         · exact h
         · exact h1 x hx
       exact .inl ⟨hm, zjo c _ hm⟩
     · refine .inr ⟨y :: a, b, fun x hx => ?_, by rw [h2]; rfl, ?_⟩
       · rcases List.mem_cons.1 hx with rfl | hx
         · exact h
         · exact h1 x hx
       · rw [cutI, if_neg h, h3]
theorem zvc {c : Int} (hc : 0 ≤ c ∧ c < 256) : ∀ (s : List Int), Bs s → (∀ x, x ∈ s → x ≠ c) → indexByte (s.map b8) (b8 c) = -1
 | [], _, _ => rfl
 | x :: l, hb, h => by
   have ih := zvc hc l (fun y hy => hb y (by simp [hy])) fun y hy => h y (by simp [hy])
   have hne : (b8 x == b8 c) = false := by
     rw [beq_eq_false_iff_ne]
     exact fun e => h x (by simp) (znb (hb x (by simp)) hc e)
   rw [List.map_cons, indexByte, hne, ih]; rfl
theorem zqo {c : Int} (hc : 0 ≤ c ∧ c < 256) : ∀ (a b : List Int), Bs a → (∀ x, x ∈ a → x ≠ c) → indexByte ((a ++ c :: b).map b8) (b8 c) = a.length
 | [], b, _, _ => by simp [indexByte]
 | x :: a, b, hb, h => by
   have ih := zqo hc a b (fun y hy => hb y (by simp [hy])) fun y hy => h y (by simp [hy])
   have hne : (b8 x == b8 c) = false := by
     rw [beq_eq_false_iff_ne]
     exact fun e => h x (by simp) (znb (hb x (by simp)) hc e)
   rw [List.cons_append, List.map_cons, indexByte, hne, ih]
   have : (((a.length : Nat) : Int) == -1) = false := by rw [beq_eq_false_iff_ne]; omega
   rw [this]
   simp
theorem z17r (s : List Int) (c : Int) : zmf s c = indexByte (s.map b8) (b8 c) := by
 unfold zmf
 rw [show (ba s).data.toList = s.map b8 from zge s]
 rfl
theorem z1al {s : List Int} {c : Int} (hl : s.length ≤ 1000) : z5r s [c] = some (indexByte (s.map b8) (b8 c)) := by
 have hI : z4a s c = some (indexByte (s.map b8) (b8 c)) := by
   unfold z4a
   rw [z0z (by omega), z17r]
 unfold z5r
 have e1 : idxI [c] 0 = some c := rfl
 have e2 : eqI (([c] : List Int).length : Nat) 0 = false := rfl
 have e3 : eqI (([c] : List Int).length : Nat) 1 = true := rfl
 have e4 : eqS [c] s = true → s = [c] := fun h => (of_decide_eq_true h).symm
 rw [z0z (by simp), e2]
 simp only [cond_false, Option.bind_some, e1, e3, cond_true, hI]
 cases h : eqS [c] s with
 | false => rfl
 | true =>
   rw [e4 h]
   simp [indexByte]
theorem z16b {s : List Int} {c : Int} (hb : Bs s) (hc : 0 ≤ c ∧ c < 256) (hl : s.length ≤ 1000) : zdq s [c] = some (cutI c s) := by
 have key : z6f s [c] = some (cutI c s) := by
   unfold z6f
   rw [z1al hl]
   simp only [Option.bind_some]
   rcases zcu c s with ⟨h1, h2⟩ | ⟨a, b, h1, h2, h3⟩
   · rw [zvc hc s hb h1, h2]; rfl
   · have hba : Bs a := fun x hx => hb x (by rw [h2]; simp [hx])
     have hlen : s.length = a.length + (b.length + 1) := by rw [h2]; simp
     have hi : indexByte (s.map b8) (b8 c) = a.length := by
       have := zqo hc a b hba h1
       rw [← h2] at this
       exact this
     rw [hi, h3, leI_t (by omega), cond_true, zjg (by omega), cond_true, z0z (by simp), z7o (by simp; omega)]
     have e : ((a.length : Int) + ((([c] : List Int).length : Nat) : Int)) = ((a.length + 1 : Nat) : Int) := by simp
     rw [e, zjg (by omega), cond_true]
     have g1 : subL s 0 (a.length : Int) = a := by simp [subL, h2]
     have g2 : subL s ((a.length + 1 : Nat) : Int) (s.length : Int) = b := by
       simp only [subL, Int.toNat_natCast]
       rw [hlen, h2, List.drop_append, List.drop_eq_nil_of_le (by omega), List.nil_append, show a.length + 1 - a.length = 1 by omega]
       simp only [List.drop_succ_cons, List.drop_zero]
       exact List.take_of_length_le (by omega)
     rw [g1, g2]
 unfold zdq
 rw [key]; rfl
theorem z12w : ∀ (p q : List Int) (a : Int), val a (p ++ q) = val (val a p) q
 | [], q, a => rfl
 | x :: p, q, a => by rw [List.cons_append, val, val, z12w p q]
theorem z11j (t : List Int) : (t.takeWhile isD).all isD = true := by
 rw [List.all_eq_true]
 intro x hx
 induction t with
 | nil => simp at hx
 | cons y t ih =>
   rw [List.takeWhile_cons] at hx
   split at hx
   · rcases List.mem_cons.1 hx with rfl | hx
     · assumption
     · exact ih hx
   · cases hx
theorem zr0 (p q : List Int) (h : p.all isD = true) : (p ++ q).takeWhile isD = p ++ q.takeWhile isD := by
 induction p with
 | nil => rfl
 | cons x p ih =>
   rw [List.all_cons, Bool.and_eq_true] at h
   rw [List.cons_append, List.takeWhile_cons, if_pos h.1, ih h.2]; rfl
def numI (t : List Int) (from_ : Nat) : Int := if canon (t.takeWhile isD) = true then ((from_ + (t.takeWhile isD).length : Nat) : Int) else -1
theorem z17e {p q : List Int} (h : (p ++ q).all isD = true) (hv : 4294967295 < val 0 p) : canon (p ++ q) = false := by
 rw [List.all_append, Bool.and_eq_true] at h
 have h0 : 0 ≤ val 0 p := zpg p 0 (by omega) h.1
 have := zpg q (val 0 p) h0 h.2
 unfold canon
 rw [z12w, decide_eq_false (by omega), Bool.and_false]
theorem z15l {p q : List Int} (h2 : 2 ≤ p.length) (h : p.head? = some 48) : canon (p ++ q) = false := by
 have : lead (p ++ q) = true := by
   unfold lead
   rw [decide_eq_true (by simp; omega), Bool.true_and, decide_eq_true_eq]
   cases p with
   | nil => simp at h2
   | cons x p => simpa using h
 unfold canon
 rw [this]; simp
theorem zxk {s : List Int} (hb : Bs s) (hl : s.length ≤ 1000) (at_ : Nat) (ha : at_ ≤ s.length) : zcd s (at_ : Int) = some (numI (s.drop at_) at_) := by
 refine ok_is ?_
 unfold zcd
 have hlen : (s.drop at_).length = s.length - at_ := List.length_drop
 refine z2i ?_
 refine zuy (s.length - at_) (fun i _ => (s, (at_ : Int), val 0 ((s.drop at_).take i), ((at_ + i : Nat) : Int)))
   (fun i (_ : Unit) => ((s.drop at_).take i).all isD = true ∧ 0 ≤ val 0 ((s.drop at_).take i) ∧ val 0 ((s.drop at_).take i) ≤ 4294967295 ∧ lead ((s.drop at_).take i) = false) () rfl ⟨by simp, by simp [val], by simp [val], by simp [lead]⟩ (fun _ hI => ?_) fun i _ hi hI => ?_
 · obtain ⟨h1, h2, h3, h4⟩ := hI
   unfold z2t z9t
   dsimp only
   have htw : (s.drop at_).takeWhile isD = s.drop at_ := by
     have := zr0 (s.drop at_) [] (by rw [← hlen, List.take_length] at h1; exact h1)
     simpa using this
   rw [← hlen, List.take_length] at h1 h2 h3 h4
   repeat' first
     | (dsimp only [Int.toNat_natCast, List.length_nil])
     | with_reducible first | refine z2w ?_ | refine z2v ?_ | refine z0t ?_ | refine z2u ?_ | refine z1w ?_ | refine z3v ?_ | refine qs ?_ | refine qb ?_ | refine z4d ?_ | refine qw ?_ | refine z4g ?_ | refine z4f ?_ | refine qi ?_ | refine qg (h := ?_) | refine qx (h := ?_) | refine qy (h := ?_) | refine qa ?_ | refine qc ?_ | refine ql ?_ | refine qp ?_ | refine z2i ?_ | rfl
     | (with_reducible first | refine ok_lt ?_ ?_ | refine ok_le ?_ ?_ | refine z3z ?_ ?_ | refine z4c ?_ ?_ | refine z3y ?_ ?_ | refine qu ?_ ?_ | refine ok_if ?_ ?_) <;> intro _ <;> try (exfalso; omega)
   · unfold numI
     rw [htw]
     rename_i h
     have : s.drop at_ = [] := List.length_eq_zero_iff.1 (by omega)
     rw [this]; rfl
   · unfold numI
     rw [htw]
     rename_i h
     have hne : s.drop at_ ≠ [] := fun e => by rw [e] at hlen; simp at hlen; omega
     have : canon (s.drop at_) = true := by
       unfold canon
       rw [h1, h4, decide_eq_true h3]
       simp [hne]
     rw [if_pos this]
     congr 1
     omega
 · obtain ⟨h1, h2, h3, h4⟩ := hI
   unfold z2t z9t
   dsimp only
   have hi' : i < (s.drop at_).length := by omega
   have hj : at_ + i < s.length := by omega
   have hx : (s.drop at_)[i] = s[at_ + i] := by simp
   have hbx := hb s[at_ + i] (List.getElem_mem hj)
   have htk : (s.drop at_).take (i + 1) = (s.drop at_).take i ++ [s[at_ + i]] := by rw [List.take_succ_eq_append_getElem hi', hx]
   have hsplit : s.drop at_ = (s.drop at_).take i ++ s[at_ + i] :: (s.drop at_).drop (i + 1) := by
     rw [← hx, ← List.drop_eq_getElem_cons hi', List.take_append_drop]
   have hstop : isD s[at_ + i] = false → (s.drop at_).takeWhile isD = (s.drop at_).take i := fun hd => by
     conv => lhs; rw [hsplit]
     rw [zr0 _ _ h1, List.takeWhile_cons, if_neg (by simp [hd]), List.append_nil]
   have hgo : isD s[at_ + i] = true → ((s.drop at_).take (i + 1)).all isD = true := fun hd => by
     rw [htk, List.all_append, h1, List.all_cons, hd]; rfl
   have hmore : isD s[at_ + i] = true → ∃ q, (s.drop at_).takeWhile isD = (s.drop at_).take (i + 1) ++ q ∧ ((s.drop at_).take (i + 1) ++ q).all isD = true := fun hd => by
     refine ⟨((s.drop at_).drop (i + 1)).takeWhile isD, ?_, ?_⟩
     · conv => lhs; rw [← List.take_append_drop (i + 1) (s.drop at_)]
       exact zr0 _ _ (hgo hd)
     · rw [List.all_append, hgo hd, z11j]; rfl
   have hval : val 0 ((s.drop at_).take (i + 1)) = 10 * val 0 ((s.drop at_).take i) + (s[at_ + i] - 48) := by rw [htk, zt0]
   have hlenT : ((s.drop at_).take (i + 1)).length = i + 1 := by rw [List.length_take]; omega
   have hhead : ((s.drop at_).take (i + 1)).head? = some (s[at_]'(by omega)) := by
     rw [List.head?_take, if_neg (by omega), List.head?_drop, List.getElem?_eq_getElem]
   have hw : ∀ x : Int, 48 ≤ x → x ≤ 57 → W64 (WU8 (x - 48)) = x - 48 := fun x h1 h2 => by rw [z1d6 (by omega), z7o (by omega)]
   have hend : isD s[at_ + i] = false → numI (s.drop at_) at_ = if i = 0 then -1 else ((at_ + i : Nat) : Int) := fun hd => by
     unfold numI
     rw [hstop hd]
     have hl2 : ((s.drop at_).take i).length = i := by rw [List.length_take]; omega
     by_cases h0 : i = 0
     · rw [if_pos h0, h0]; rfl
     · rw [if_neg h0]
       have : canon ((s.drop at_).take i) = true := by
         unfold canon
         rw [h1, h4, decide_eq_true h3]
         have : (s.drop at_).take i ≠ [] := fun e => by rw [e] at hl2; simp at hl2; omega
         simp only [Bool.and_true, Bool.not_false, Bool.not_eq_true', List.isEmpty_eq_false_iff]
         exact this
       rw [if_pos this, hl2]
   have hW : ∀ (h : isD s[at_ + i] = true), (W64 ((W64 (10 * val 0 ((s.drop at_).take i))) + (W64 (WU8 (s[at_ + i] - 48))))) = val 0 ((s.drop at_).take (i + 1)) := fun h => by
     rw [z7x] at h
     rw [hw _ h.1 h.2, z7o (n := 10 * _) (by omega), z7o (by omega), hval]
   repeat' first
     | (dsimp only [Int.toNat_natCast, List.length_nil])
     | with_reducible first | refine z2w ?_ | refine z2v ?_ | refine z0t ?_ | refine z2u ?_ | refine z1w ?_ | refine z3v ?_ | refine qs ?_ | refine qb ?_ | refine z4d ?_ | refine qw ?_ | refine z4g ?_ | refine z4f ?_ | refine qi ?_ | refine qg (h := ?_) | refine qx (h := ?_) | refine qy (h := ?_) | refine qa ?_ | refine qc ?_ | refine ql ?_ | refine qp ?_ | refine z2i ?_ | rfl
     | (with_reducible first | refine ok_lt ?_ ?_ | refine ok_le ?_ ?_ | refine z3z ?_ ?_ | refine z4c ?_ ?_ | refine z3y ?_ ?_ | refine qu ?_ ?_ | refine ok_if ?_ ?_) <;> intro _ <;> try (exfalso; omega)
   · rename_i _ d1 d2 hbig
     have hd : isD s[at_ + i] = true := z7x.2 ⟨d1, d2⟩
     rw [hW hd] at hbig
     obtain ⟨q, q1, q2⟩ := hmore hd
     unfold numI
     rw [q1, z17e q2 hbig]; rfl
   · rename_i _ d1 d2 hsm hlt h48
     have hd : isD s[at_ + i] = true := z7x.2 ⟨d1, d2⟩
     rw [z7o (by omega), z7o (by omega)] at hlt
     obtain ⟨q, q1, q2⟩ := hmore hd
     unfold numI
     rw [q1, z15l (by rw [hlenT]; omega) (by rw [hhead, h48])]; rfl
   · rename_i _ d1 d2 hsm hlt h48
     have hd : isD s[at_ + i] = true := z7x.2 ⟨d1, d2⟩
     rw [hW hd] at hsm
     refine ⟨(), by rw [hW hd, z7o (by omega)]; rfl, hgo hd, ?_, by omega, ?_⟩
     · rw [z7x] at hd; omega
     · unfold lead
       rw [hhead, decide_eq_false (p := some s[at_] = some 48) (fun e => h48 (Option.some.inj e)), Bool.and_false]
   · rename_i _ d1 d2 hsm hlt
     have hd : isD s[at_ + i] = true := z7x.2 ⟨d1, d2⟩
     rw [hW hd] at hsm
     rw [z7o (by omega), z7o (by omega)] at hlt
     refine ⟨(), by rw [hW hd, z7o (by omega)]; rfl, hgo hd, ?_, by omega, ?_⟩
     · rw [z7x] at hd; omega
     · unfold lead
       rw [decide_eq_false (by rw [hlenT]; omega), Bool.false_and]
   all_goals
     rename_i h0
     have hd : isD s[at_ + i] = false := by
       cases h : isD s[at_ + i] with
       | false => rfl
       | true => rw [z7x] at h; omega
     rw [hend hd]
   · rw [if_pos (by omega)]
   · rw [if_neg (by omega)]
   · rw [if_pos (by omega)]
   · rw [if_neg (by omega)]
def lostI : List Int := [108, 111, 115, 116, 43, 102, 111, 117, 110, 100]
def partI (s : List Int) : Bool := decide (s = lostI) || (nameI (cutI 126 s).1 && (!(cutI 126 s).2.2 || ((cutI 46 (cutI 126 s).2.1).2.2 && canon (cutI 46 (cutI 126 s).2.1).1 && canon (cutI 46 (cutI 126 s).2.1).2.1)))
theorem z17h {c : Int} {s : List Int} (hb : Bs s) : Bs (cutI c s).1 ∧ Bs (cutI c s).2.1 ∧ (cutI c s).1.length ≤ s.length ∧ (cutI c s).2.1.length ≤ s.length := by
 rcases zcu c s with ⟨_, h2⟩ | ⟨a, b, _, h2, h3⟩
 · rw [h2]
   exact ⟨hb, (by intro x h; cases h), Nat.le_refl _, Nat.zero_le _⟩
 · rw [h3]
   exact ⟨fun x hx => hb x (by rw [h2]; simp [hx]), fun x hx => hb x (by rw [h2]; simp [hx]), by rw [h2]; simp, by rw [h2]; simp; omega⟩
theorem z1bm {s : List Int} (hb : Bs s) (hl : s.length ≤ 1000) : zl9 s = some (partI s) := by
 obtain ⟨b1, b2, b3, b4⟩ := z17h (c := 126) hb
 obtain ⟨d1, d2, d3, d4⟩ := z17h (c := 46) b2
 unfold zl9 partI
 rw [z16b hb (by decide) hl]
 simp only [Option.bind_some]
 rw [z15g b1 (by omega)]
 simp only [Option.bind_some]
 rw [z16b b2 (by decide) (by omega)]
 simp only [Option.bind_some]
 rw [zps d1 (by omega), zps d2 (by omega)]
 simp only [Option.bind_some]
 by_cases h0 : s = lostI
 · have : eqS s ([108, 111, 115, 116, 43, 102, 111, 117, 110, 100] : List Int) = true := eqS_t h0
   rw [this, decide_eq_true h0]; rfl
 · have : eqS s ([108, 111, 115, 116, 43, 102, 111, 117, 110, 100] : List Int) = false := eqS_f h0
   rw [this, decide_eq_false h0]
   cases nameI (cutI 126 s).1 <;> cases (cutI 126 s).2.2 <;> cases (cutI 46 (cutI 126 s).2.1).2.2 <;> cases canon (cutI 46 (cutI 126 s).2.1).1 <;> cases canon (cutI 46 (cutI 126 s).2.1).2.1 <;> rfl
theorem zje {s : List Int} (h : canon s = true) : s.all isD = true ∧ s ≠ [] := by
 unfold canon at h
 simp only [Bool.and_eq_true, Bool.not_eq_true', List.isEmpty_eq_false_iff] at h
 exact ⟨h.1.1.2, h.1.1.1⟩
theorem z1bt {s : List Int} (h : s.all isD = true) : s.takeWhile isD = s := by simpa using zr0 s [] h
theorem z1bi {s : List Int} (h : nameI s = true) : ∀ x, x ∈ s → x ≠ 126 := by
 unfold nameI at h
 simp only [Bool.and_eq_true] at h
 intro x hx e
 subst e
 have := List.all_eq_true.1 h.2 126 hx
 revert this
 decide
theorem z13s (d : List Int) (y : Int) (r : List Int) (hd : d.all isD = true) (hy : isD y = false) : (d ++ y :: r).takeWhile isD = d := by
 rw [zr0 _ _ hd, List.takeWhile_cons, if_neg (by simp [hy]), List.append_nil]
theorem z1a1 (t : List Int) : t = t.takeWhile isD ∨ ∃ y r, t = t.takeWhile isD ++ y :: r ∧ isD y = false := by
 induction t with
 | nil => exact .inl rfl
 | cons x t ih =>
   rw [List.takeWhile_cons]
   cases h : isD x with
   | false => exact .inr ⟨x, t, by simp, h⟩
   | true =>
     rcases ih with ih | ⟨y, r, h1, h2⟩
     · left; simp only [if_true]; rw [← ih]
     · right; refine ⟨y, r, ?_, h2⟩; simp only [if_true]; rw [List.cons_append, ← h1]
theorem zwp {d : List Int} (h : d.all isD = true) : ∀ x, x ∈ d → x ≠ 46 := fun x hx e => by
 have := List.all_eq_true.1 h x hx
 subst e
 revert this; decide
def tagR (t : List Int) : Bool := (cutI 46 t).2.2 && canon (cutI 46 t).1 && canon (cutI 46 t).2.1
theorem z1c1 {t : List Int} (h : canon (t.takeWhile isD) = false) : tagR t = false := by
 unfold tagR
 rcases zcu 46 t with ⟨_, h2⟩ | ⟨a, b, h1, h2, h3⟩
 · rw [h2]; rfl
 · rw [h3]
   cases hc : canon a with
   | false => simp
   | true =>
     have ha := (zje hc).1
     rw [h2, z13s a 46 b ha (by decide), hc] at h
     cases h
theorem z1c2 {t : List Int} (h : t = t.takeWhile isD) : tagR t = false := by
 unfold tagR
 rw [zjo 46 t (zwp (by rw [h]; exact z11j _))]; rfl
theorem z18p {t r : List Int} {y : Int} (h : t = t.takeWhile isD ++ y :: r) (hy : isD y = false) (h46 : y ≠ 46) : tagR t = false := by
 unfold tagR
 rcases zcu 46 t with ⟨_, h2⟩ | ⟨a, b, h1, h2, h3⟩
 · rw [h2]; rfl
 · rw [h3]
   cases hc : canon a with
   | false => simp
   | true =>
     have ha := (zje hc).1
     have e := h
     rw [h2, z13s a 46 b ha (by decide)] at e
     have := List.append_cancel_left e
     simp only [List.cons.injEq] at this
     exact absurd this.1.symm h46
theorem z1bf {t r : List Int} (h : t = t.takeWhile isD ++ 46 :: r) : tagR t = (canon (t.takeWhile isD) && canon r) := by
 unfold tagR
 have := zwc 46 (t.takeWhile isD) r (zwp (z11j t))
 rw [← h] at this
 rw [this]; rfl
theorem z1cj (r : List Int) (k : Nat) : eqI (numI r k) ((k + r.length : Nat) : Int) = canon r := by
 have hself : canon r = true → r.takeWhile isD = r := fun h => z1bt (zje h).1
 cases hc : canon r with
 | true =>
   unfold numI
   rw [hself hc, hc, if_pos rfl]
   exact eqI_t rfl
 | false =>
   refine eqI_f ?_
   unfold numI
   split
   · rename_i h
     intro e
     have e2 : (r.takeWhile isD).length = r.length := by omega
     have : r.takeWhile isD = r := (List.takeWhile_prefix isD).eq_of_length e2
     rw [this, hc] at h
     cases h
   · omega
theorem zv3 {s : List Int} (hb : Bs s) (hl : s.length ≤ 1000) : zi8 s = some (partI s) := by
 refine ok_is ?_
 unfold zi8
 rw [zv4 hb hl]
 have hnm : nameI s = true → partI s = true := fun h => by
   unfold partI
   rw [zjo 126 s (z1bi h), h]; simp
 repeat' first
   | (dsimp only [Int.toNat_natCast, List.length_nil])
   | with_reducible first | refine z2w ?_ | refine z2v ?_ | refine z0t ?_ | refine z2u ?_ | refine z1w ?_ | refine z3v ?_ | refine qs ?_ | refine qb ?_ | refine z4d ?_ | refine qw ?_ | refine z4g ?_ | refine z4f ?_ | refine qi ?_ | refine qg (h := ?_) | refine qx (h := ?_) | refine qy (h := ?_) | refine qa ?_ | refine qc ?_ | refine ql ?_ | refine qp ?_ | refine z2i ?_ | rfl
   | (with_reducible first | refine ok_lt ?_ ?_ | refine ok_le ?_ ?_ | refine z3z ?_ ?_ | refine z4c ?_ ?_ | refine z3y ?_ ?_ | refine qu ?_ ?_ | refine ok_if ?_ ?_) <;> intro _ <;> try (exfalso; omega)
 · rename_i h
   unfold partI
   rw [decide_eq_true (show s = lostI from h)]; rfl
 · rename_i h1 h2
   exact (hnm h2).symm
 · rename_i h1 h2
   have hp : partI s = (nameI (cutI 126 s).1 && (!(cutI 126 s).2.2 || tagR (cutI 126 s).2.1)) := by
     unfold partI
     rw [decide_eq_false (show ¬ s = lostI from h1)]; rfl
   rw [hp]
   refine zuy s.length (fun i _ => (s, (i : Int))) (fun i (_ : Unit) => ∀ x, x ∈ s.take i → x ≠ 126) () rfl (by simp) (fun _ hall => ?_) fun i _ hi hall => ?_
   · unfold z2r z9u
     dsimp only
     repeat' first
       | (dsimp only [Int.toNat_natCast, List.length_nil])
       | with_reducible first | refine z2w ?_ | refine z2v ?_ | refine z0t ?_ | refine z2u ?_ | refine z1w ?_ | refine z3v ?_ | refine qs ?_ | refine qb ?_ | refine z4d ?_ | refine qw ?_ | refine z4g ?_ | refine z4f ?_ | refine qi ?_ | refine qg (h := ?_) | refine qx (h := ?_) | refine qy (h := ?_) | refine qa ?_ | refine qc ?_ | refine ql ?_ | refine qp ?_ | refine z2i ?_ | rfl
       | (with_reducible first | refine ok_lt ?_ ?_ | refine ok_le ?_ ?_ | refine z3z ?_ ?_ | refine z4c ?_ ?_ | refine z3y ?_ ?_ | refine qu ?_ ?_ | refine ok_if ?_ ?_) <;> intro _ <;> try (exfalso; omega)
     rw [List.take_length] at hall
     rw [zjo 126 s hall, h2]; rfl
   · unfold z2r z9u
     dsimp only
     have hsp : s = s.take i ++ s[i] :: s.drop (i + 1) := by rw [← List.drop_eq_getElem_cons hi, List.take_append_drop]
     by_cases h126 : s[i] = 126
     · have hcut : cutI 126 s = (s.take i, s.drop (i + 1), true) := by
         conv => lhs; rw [hsp, h126]
         exact zwc 126 _ _ hall
       rw [hcut]
       dsimp only
       have hW : W64 ((i : Int) + 1) = ((i + 1 : Nat) : Int) := z3h (by omega)
       have hbt : Bs (s.take i) := fun x hx => hb x (List.mem_of_mem_take hx)
       have hbd : Bs (s.drop (i + 1)) := fun x hx => hb x (List.mem_of_mem_drop hx)
       have hsub : subL s 0 (i : Int) = s.take i := by simp [subL]
       rw [hW, zxk hb hl (i + 1) (by omega), hsub, zv4 hbt (by rw [List.length_take]; omega)]
       simp only [Option.bind_some]
       generalize htd : s.drop (i + 1) = t at *
       have htl : t.length = s.length - (i + 1) := by rw [← htd, List.length_drop]
       have hget : ∀ k (hk : k < t.length), t[k]? = s[i + 1 + k]? := fun k hk => by rw [← htd, List.getElem?_drop]
       by_cases hcn : canon (t.takeWhile isD) = true
       · have hnum : numI t (i + 1) = ((i + 1 + (t.takeWhile isD).length : Nat) : Int) := by unfold numI; rw [if_pos hcn]
         rw [hnum]
         have hspl := z1a1 t
         have htwl : (t.takeWhile isD).length ≤ t.length := (List.takeWhile_prefix isD).length_le
         have htd2 : tagR t = false ∨ ∃ r, t = t.takeWhile isD ++ 46 :: r := by
           rcases hspl with he | ⟨y, r, he, hy⟩
           · exact .inl (z1c2 he)
           · by_cases h46 : y = 46
             · subst h46; exact .inr ⟨r, he⟩
             · exact .inl (z18p he hy h46)
         have hnext : ∀ (hk : i + 1 + (t.takeWhile isD).length < s.length), s[i + 1 + (t.takeWhile isD).length] = 46 → ∃ r, t = t.takeWhile isD ++ 46 :: r := fun hk hq => by
           rcases hspl with he | ⟨y, r, he, hy⟩
           · have : (t.takeWhile isD).length = t.length := by rw [← he]
             omega
           · have h1 := hget (t.takeWhile isD).length (by omega)
             have h2 : ∀ (d : List Int), t = d ++ y :: r → t[d.length]? = some y := fun d hd => by rw [hd, List.getElem?_append_right (Nat.le_refl _), Nat.sub_self]; rfl
             rw [h2 _ he, List.getElem?_eq_getElem hk, hq] at h1
             cases h1
             exact ⟨r, he⟩
         have hdot : ∀ r, t = t.takeWhile isD ++ 46 :: r → tagR t = canon r ∧ (∃ hk : i + 1 + (t.takeWhile isD).length < s.length, s[i + 1 + (t.takeWhile isD).length] = 46) ∧ s.drop (i + 1 + (t.takeWhile isD).length + 1) = r ∧ s.length = i + 1 + (t.takeWhile isD).length + 1 + r.length := fun r he => by
           have hlen := congrArg List.length he
           rw [List.length_append, List.length_cons] at hlen
           refine ⟨by rw [z1bf he, hcn, Bool.true_and], ⟨by omega, ?_⟩, ?_, by omega⟩
           · have h1 := hget (t.takeWhile isD).length (by omega)
             have h2 : ∀ (d : List Int), t = d ++ 46 :: r → t[d.length]? = some 46 := fun d hd => by rw [hd, List.getElem?_append_right (Nat.le_refl _), Nat.sub_self]; rfl
             rw [h2 _ he, List.getElem?_eq_getElem (by omega)] at h1
             exact (Option.some.inj h1).symm
           · have h3 : ∀ (d : List Int), t = d ++ 46 :: r → t.drop (d.length + 1) = r := fun d hd => by
               rw [hd, List.drop_append, List.drop_eq_nil_of_le (by omega), List.nil_append, show d.length + 1 - d.length = 1 by omega]; rfl
             have := h3 _ he
             rw [← htd, List.drop_drop] at this
             rw [htd] at this
             rw [← this]; congr 1
         have hW2 : W64 (((i + 1 + (t.takeWhile isD).length : Nat) : Int) + 1) = ((i + 1 + (t.takeWhile isD).length + 1 : Nat) : Int) := z3h (by omega)
         rw [hW2]
         generalize (t.takeWhile isD).length = m at *
         repeat' first
           | (dsimp only [Int.toNat_natCast, List.length_nil])
           | with_reducible first | refine z2w ?_ | refine z2v ?_ | refine z0t ?_ | refine z2u ?_ | refine z1w ?_ | refine z3v ?_ | refine qs ?_ | refine qb ?_ | refine z4d ?_ | refine qw ?_ | refine z4g ?_ | refine z4f ?_ | refine qi ?_ | refine qg (h := ?_) | refine qx (h := ?_) | refine qy (h := ?_) | refine qa ?_ | refine qc ?_ | refine ql ?_ | refine qp ?_ | refine z2i ?_ | rfl
           | (with_reducible first | refine ok_lt ?_ ?_ | refine ok_le ?_ ?_ | refine z3z ?_ ?_ | refine z4c ?_ ?_ | refine z3y ?_ ?_ | refine qu ?_ ?_ | refine ok_if ?_ ?_) <;> intro _ <;> try (exfalso; omega)
         · rename_i hn _ hge
           rw [hn]
           rcases htd2 with h | ⟨r, h⟩
           · rw [h]; rfl
           · obtain ⟨_, ⟨hk, _⟩, _, _⟩ := hdot r h
             exfalso; omega
         · rename_i hn _ hlt h46
           obtain ⟨r, h⟩ := hnext (by omega) h46
           obtain ⟨g1, _, g3, g4⟩ := hdot r h
           rw [zxk hb hl (i + 1 + m + 1) (by omega), g3, g1, hn]
           have hend := z1cj r (i + 1 + m + 1)
           rw [← g4] at hend
           repeat' first
             | (dsimp only [Int.toNat_natCast, List.length_nil])
             | with_reducible first | refine z2w ?_ | refine z2v ?_ | refine z0t ?_ | refine z2u ?_ | refine z1w ?_ | refine z3v ?_ | refine qs ?_ | refine qb ?_ | refine z4d ?_ | refine qw ?_ | refine z4g ?_ | refine z4f ?_ | refine qi ?_ | refine qg (h := ?_) | refine qx (h := ?_) | refine qy (h := ?_) | refine qa ?_ | refine qc ?_ | refine ql ?_ | refine qp ?_ | refine z2i ?_ | rfl
             | (with_reducible first | refine ok_lt ?_ ?_ | refine ok_le ?_ ?_ | refine z3z ?_ ?_ | refine z4c ?_ ?_ | refine z3y ?_ ?_ | refine qu ?_ ?_ | refine ok_if ?_ ?_) <;> intro _ <;> try (exfalso; omega)
           rw [hend]; rfl
         · rename_i hn _ hlt h46
           rw [hn]
           rcases htd2 with h | ⟨r, h⟩
           · rw [h]; rfl
           · obtain ⟨_, ⟨hk, hq⟩, _, _⟩ := hdot r h
             exact absurd hq h46
         · rename_i hn
           rw [hn]; rfl
       · have hcn : canon (t.takeWhile isD) = false := by simpa using hcn
         have hnum : numI t (i + 1) = -1 := by unfold numI; rw [hcn]; rfl
         rw [hnum, z1c1 hcn]
         repeat' first
           | (dsimp only [Int.toNat_natCast, List.length_nil])
           | with_reducible first | refine z2w ?_ | refine z2v ?_ | refine z0t ?_ | refine z2u ?_ | refine z1w ?_ | refine z3v ?_ | refine qs ?_ | refine qb ?_ | refine z4d ?_ | refine qw ?_ | refine z4g ?_ | refine z4f ?_ | refine qi ?_ | refine qg (h := ?_) | refine qx (h := ?_) | refine qy (h := ?_) | refine qa ?_ | refine qc ?_ | refine ql ?_ | refine qp ?_ | refine z2i ?_ | rfl
           | (with_reducible first | refine ok_lt ?_ ?_ | refine ok_le ?_ ?_ | refine z3z ?_ ?_ | refine z4c ?_ ?_ | refine z3y ?_ ?_ | refine qu ?_ ?_ | refine ok_if ?_ ?_) <;> intro _ <;> try (exfalso; omega)
         all_goals simp
     · have hall' : ∀ x, x ∈ s.take (i + 1) → x ≠ 126 := fun x hx => by
         rw [List.take_succ_eq_append_getElem hi, List.mem_append] at hx
         rcases hx with hx | hx
         · exact hall x hx
         · simp at hx; subst hx; exact h126
       repeat' first
         | (dsimp only [Int.toNat_natCast, List.length_nil])
         | with_reducible first | refine z2w ?_ | refine z2v ?_ | refine z0t ?_ | refine z2u ?_ | refine z1w ?_ | refine z3v ?_ | refine qs ?_ | refine qb ?_ | refine z4d ?_ | refine qw ?_ | refine z4g ?_ | refine z4f ?_ | refine qi ?_ | refine qg (h := ?_) | refine qx (h := ?_) | refine qy (h := ?_) | refine qa ?_ | refine qc ?_ | refine ql ?_ | refine qp ?_ | refine z2i ?_ | rfl
         | (with_reducible first | refine ok_lt ?_ ?_ | refine ok_le ?_ ?_ | refine z3z ?_ ?_ | refine z4c ?_ ?_ | refine z3y ?_ ?_ | refine qu ?_ ?_ | refine ok_if ?_ ?_) <;> intro _ <;> try (exfalso; omega)
       exact ⟨(), by rw [z7o (by omega)]; rfl, hall'⟩
end Go.Proofs.YtomgkgngbpnngaaGreatDoor
set_option maxRecDepth 100000
set_option linter.unusedVariables false
set_option linter.unusedSimpArgs false
namespace Go.Proofs.YtomgkgngbpnngaaGreatDoor
open Go.Tm Go.Ab Go.Lib
def z2f (c : Int) : List Int → List (List Int)
 | [] => [[]]
 | x :: l => if x = c then [] :: z2f c l else match z2f c l with
   | [] => [[x]]
   | p :: ps => (x :: p) :: ps
theorem zh1 (c : Int) : ∀ (s : List Int), (∀ x, x ∈ s → x ≠ c) → z2f c s = [s]
 | [], _ => rfl
 | x :: l, h => by rw [z2f, if_neg (h x (by simp)), zh1 c l fun y hy => h y (by simp [hy])]
theorem zih (c : Int) : ∀ (a b : List Int), (∀ x, x ∈ a → x ≠ c) → z2f c (a ++ c :: b) = a :: z2f c b
 | [], b, _ => by simp [z2f]
 | x :: a, b, h => by rw [List.cons_append, z2f, if_neg (h x (by simp)), zih c a b fun y hy => h y (by simp [hy])]
theorem zwv (c : Int) : ∀ (n : Nat) (s : List Int), s.length ≤ n → Bs s → ∀ p, p ∈ z2f c s → Bs p ∧ p.length ≤ s.length
 | n, s, hn, hb, p, hp => by
   rcases zcu c s with ⟨h1, _⟩ | ⟨a, b, h1, h2, _⟩
   · rw [zh1 c s h1] at hp
     simp at hp; subst hp
     exact ⟨hb, Nat.le_refl _⟩
   · rw [h2, zih c a b h1] at hp
     have hl : s.length = a.length + (b.length + 1) := by rw [h2]; simp
     rcases List.mem_cons.1 hp with rfl | hp
     · exact ⟨fun x hx => hb x (by rw [h2]; simp [hx]), by omega⟩
     · match n, hn with
       | 0, hn => omega
       | n + 1, hn =>
         have := zwv c n b (by omega) (fun x hx => hb x (by rw [h2]; simp [hx])) p hp
         exact ⟨this.1, by omega⟩
theorem zr9 {s : List Int} (hb : Bs s) : nums (s.map b8) = s := by
 unfold nums
 rw [List.map_map]
 conv => rhs; rw [← List.map_id s]
 exact List.map_congr_left fun x hx => zce (hb x hx)
theorem zxf {c : Int} (hc : 0 ≤ c ∧ c < 256) : ∀ (n : Nat) (s : List Int), s.length ≤ n → Bs s → (splitK [b8 c] 0 ((s.map b8).count (b8 c)) (s.map b8)).map nums = z2f c s
 | n, s, hn, hb => by
   rcases zcu c s with ⟨h1, _⟩ | ⟨a, b, h1, h2, _⟩
   · have hcnt : (s.map b8).count (b8 c) = 0 := by
       rw [List.count_eq_zero]
       intro hm
       obtain ⟨x, hx, e⟩ := List.mem_map.1 hm
       exact h1 x hx (znb (hb x hx) hc e)
     rw [hcnt, zh1 c s h1]
     simp only [splitK, List.map_cons, List.map_nil]
     rw [zr9 hb]
   · have hba : Bs a := fun x hx => hb x (by rw [h2]; simp [hx])
     have hbb : Bs b := fun x hx => hb x (by rw [h2]; simp [hx])
     have hl : s.length = a.length + (b.length + 1) := by rw [h2]; simp
     have hca : (a.map b8).count (b8 c) = 0 := by
       rw [List.count_eq_zero]
       intro hm
       obtain ⟨x, hx, e⟩ := List.mem_map.1 hm
       exact h1 x hx (znb (hba x hx) hc e)
     have hcnt : (s.map b8).count (b8 c) = (b.map b8).count (b8 c) + 1 := by
       rw [h2, List.map_append, List.count_append, hca, List.map_cons, List.count_cons]
       simp
     have hi : index (s.map b8) [b8 c] = a.length := by
       rw [index_one, h2]
       exact zqo hc a b hba h1
     have hne : (index (s.map b8) [b8 c] == -1) = false := by rw [hi, beq_eq_false_iff_ne]; omega
     rw [hcnt]
     conv => rhs; rw [h2]
     rw [zih c a b h1, splitK, hne, hi]
     have e1 : (s.map b8).take (((a.length : Nat) : Int).toNat + 0) = a.map b8 := by
       rw [h2, List.map_append, Int.toNat_natCast, Nat.add_zero]
       exact List.take_left' (by simp)
     have e2 : (s.map b8).drop (((a.length : Nat) : Int).toNat + [b8 c].length) = b.map b8 := by
       rw [h2, List.map_append, List.map_cons, Int.toNat_natCast, List.length_singleton, List.drop_append, List.drop_eq_nil_of_le (by simp), List.nil_append]
       simp
     simp only [Bool.false_eq_true, if_false]
     rw [e1, e2, List.map_cons, zr9 hba]
     match n, hn with
     | 0, hn => omega
     | n + 1, hn => rw [zxf hc n b (by omega) hbb]
theorem z16n {c : Int} (hc : 0 ≤ c ∧ c < 256) {s : List Int} (hb : Bs s) : zh9 c s = z2f c s := by
 rw [← zxf hc s.length s (Nat.le_refl _) hb]
 unfold zh9
 have e0 : (ba s).data.toList = s.map b8 := zge s
 have e1 : countB (ba s) ⟨#[c.toNat.toUInt8]⟩ = (s.map b8).count (b8 c) := by
   have : countB (ba s) ⟨#[c.toNat.toUInt8]⟩ = count (ba s).data.toList [b8 c] := rfl
   rw [this, count_one, e0]
 rw [e1, show (fun b : ByteArray => nums b.data.toList) = nums ∘ (fun b : ByteArray => b.data.toList) from rfl, ← List.map_map]
 congr 1
 have := splitB_data ⟨#[c.toNat.toUInt8]⟩ 0 ((s.map b8).count (b8 c)) (ba s)
 rw [e0] at this
 exact this
theorem zv5 (c : Int) : ∀ (s : List Int), (z2f c s).length ≤ s.length + 1
 | [] => Nat.le_refl _
 | x :: l => by
   have := zv5 c l
   rw [z2f]
   split
   · simp; omega
   · split <;> simp_all
     omega
def z1c (s : List Int) : List (List Int) × Int :=
 if 120 < s.length ∨ s.head? ≠ some 47 then ([], 20)
 else if s = [47] then ([], 0)
 else if 10 < (z2f 47 s.tail).length ∨ (z2f 47 s.tail).all partI = false then ([], 20)
 else (z2f 47 s.tail, 0)
theorem z18u {s : List Int} (hl : s.length ≤ 1000) : za9 s [47] = some (decide (s.head? = some 47)) := by
 unfold za9 z6a
 cases s with
 | nil => rfl
 | cons x l =>
   have hlen : (x :: l).length = l.length + 1 := rfl
   rw [z0z (by omega), z0z (by simp), leI_t (by simp; omega), cond_true, z0z (by simp), zjg (by simp; omega)]
   have : subL (x :: l) 0 ((([47] : List Int).length : Nat) : Int) = [x] := by simp [subL]
   rw [this]
   simp only [cond_true, Option.bind_some, Option.some.injEq]
   rw [Bool.eq_iff_iff, decide_eq_true_eq, decide_eq_true_eq]
   simp
theorem zgh {s : List Int} (hb : Bs s) (hl : s.length ≤ 1000) : zb5 s = some (z1c s) := by
 refine ok_is ?_
 unfold zb5 z1c
 rw [z18u hl]
 repeat' first
   | (dsimp only [Int.toNat_natCast, List.length_nil])
   | with_reducible first | refine z2w ?_ | refine z2v ?_ | refine z0t ?_ | refine z2u ?_ | refine z1w ?_ | refine z3v ?_ | refine qs ?_ | refine qb ?_ | refine z4d ?_ | refine qw ?_ | refine z4g ?_ | refine z4f ?_ | refine qi ?_ | refine qg (h := ?_) | refine qx (h := ?_) | refine qy (h := ?_) | refine qa ?_ | refine qc ?_ | refine ql ?_ | refine qp ?_ | refine z2i ?_ | rfl
   | (with_reducible first | refine ok_lt ?_ ?_ | refine ok_le ?_ ?_ | refine z3z ?_ ?_ | refine z4c ?_ ?_ | refine z3y ?_ ?_ | refine qu ?_ ?_ | refine ok_if ?_ ?_) <;> intro _ <;> try (exfalso; omega)
 · rw [if_pos (.inl (by omega))]
 · rename_i h0 h1 h2
   have h1 := of_decide_eq_true h1
   rw [if_neg (by rintro (h | h); omega; exact h h1), if_pos h2]
 · rename_i h0 h1 h2 _
   have h1 := of_decide_eq_true h1
   rw [if_neg (by rintro (h | h); omega; exact h h1), if_neg h2]
   have htl : subL s 1 (s.length : Int) = s.tail := by
     simp [subL, List.take_of_length_le]
   have hbt : Bs s.tail := fun x hx => hb x (List.mem_of_mem_tail hx)
   have hS : zer (subL s 1 (s.length : Int)) [47] = some (z2f 47 s.tail) := by
     rw [htl]
     unfold zer
     dsimp only
     rw [ble_t (by rw [List.length_tail]; omega), z16n (by decide) hbt]; rfl
   rw [hS]
   have hpl : ∀ p, p ∈ z2f 47 s.tail → Bs p ∧ p.length ≤ s.tail.length := zwv 47 _ _ (Nat.le_refl _) hbt
   have hlen := zv5 47 s.tail
   have hlt : s.tail.length ≤ 1000 := by rw [List.length_tail]; omega
   generalize z2f 47 s.tail = l at *
   repeat' first
     | (dsimp only [Int.toNat_natCast, List.length_nil])
     | with_reducible first | refine z2w ?_ | refine z2v ?_ | refine z0t ?_ | refine z2u ?_ | refine z1w ?_ | refine z3v ?_ | refine qs ?_ | refine qb ?_ | refine z4d ?_ | refine qw ?_ | refine z4g ?_ | refine z4f ?_ | refine qi ?_ | refine qg (h := ?_) | refine qx (h := ?_) | refine qy (h := ?_) | refine qa ?_ | refine qc ?_ | refine ql ?_ | refine qp ?_ | refine z2i ?_ | rfl
     | (with_reducible first | refine ok_lt ?_ ?_ | refine ok_le ?_ ?_ | refine z3z ?_ ?_ | refine z4c ?_ ?_ | refine z3y ?_ ?_ | refine qu ?_ ?_ | refine ok_if ?_ ?_) <;> intro _ <;> try (exfalso; omega)
   · rw [if_pos (.inl (by omega))]
   · rename_i h4
     have hloop : loopC z1b (l, l, (l.length : Int), 0) = some (if (l.any fun x => !partI x) = true then .inr ([], 20) else .inl l) := by
       refine zxq _ l (fun i => (l, l, (l.length : Int), (i : Int))) (fun x => !partI x) _ _ ?_ fun i hi => ?_
       · unfold z1b z6w
         dsimp only
         rw [ltI_f (by omega)]; rfl
       · unfold z1b z6w
         dsimp only
         obtain ⟨b1, b2⟩ := hpl l[i] (List.getElem_mem hi)
         rw [ltI_t (by omega), cond_true, z2k hi]
         simp only [Option.bind_some]
         rw [z1bm b1 (by omega)]
         simp only [Option.bind_some]
         rw [z3h (by omega)]
         cases partI l[i] <;> rfl
     rw [hloop]
     have hany : (l.any fun x => !partI x) = !(l.all partI) := by rw [List.not_all_eq_any_not]
     rw [hany]
     cases hall : l.all partI with
     | true =>
       refine z0t (z0t ?_)
       rw [if_neg (by simp; omega)]
     | false =>
       refine z0t (z0t ?_)
       rw [if_pos (Or.inr rfl)]
 · rename_i h0 h1 h2 h3
   exfalso
   have h1 := of_decide_eq_true h1
   have hpos : 1 ≤ s.length := by
     cases s with
     | nil => simp at h1
     | cons x l => simp
   rw [zjg (by omega)] at h3
   cases h3
 · rename_i h0 h1
   have h1 := of_decide_eq_false h1
   rw [if_pos (.inr h1)]
theorem zra {s : List Int} {a b : Nat} : subL s (a : Int) (b : Int) = (s.drop a).take (b - a) := by simp [subL]
theorem zrj {s : List Int} {l : List (List Int)} (h0 : s.head? = some 47) (h1 : s ≠ [47]) (hl : ¬ 120 < s.length) (h2 : z2f 47 s.tail = l) (h3 : 10 < l.length ∨ l.all partI = false) : z1c s = ([], 20) := by
 unfold z1c
 rw [if_neg (by rintro (h | h); exact hl h; exact h h0), if_neg h1, h2, if_pos h3]
theorem zli {s : List Int} (hb : Bs s) (hl : s.length ≤ 1000) : zbq s = some (z1c s) := by
 refine ok_is ?_
 unfold zbq
 repeat' first
   | (dsimp only [Int.toNat_natCast, List.length_nil])
   | with_reducible first | refine z2w ?_ | refine z2v ?_ | refine z0t ?_ | refine z2u ?_ | refine z1w ?_ | refine z3v ?_ | refine qs ?_ | refine qb ?_ | refine z4d ?_ | refine qw ?_ | refine z4g ?_ | refine z4f ?_ | refine qi ?_ | refine qg (h := ?_) | refine qx (h := ?_) | refine qy (h := ?_) | refine qa ?_ | refine qc ?_ | refine ql ?_ | refine qp ?_ | refine z2i ?_ | rfl
   | (with_reducible first | refine ok_lt ?_ ?_ | refine ok_le ?_ ?_ | refine z3z ?_ ?_ | refine z4c ?_ ?_ | refine z3y ?_ ?_ | refine qu ?_ ?_ | refine ok_if ?_ ?_) <;> intro _ <;> try (exfalso; omega)
 · rename_i h; subst h; rfl
 · rename_i h1 h2; subst h2; rfl
 · rename_i h1 h2 h3
   unfold z1c
   rw [if_pos (.inl (by omega))]
 · rename_i h1 h2 h3
   have hpos : 0 < s.length := by
     cases s with
     | nil => exact absurd rfl h2
     | cons x l => simp
   refine z1df (show idxI s 0 = some s[0] from z2k (i := 0) hpos) ?_
   have hhd : s.head? = some s[0] := by
     cases s with
     | nil => exact absurd rfl h2
     | cons x l => rfl
   repeat' first
     | (dsimp only [Int.toNat_natCast, List.length_nil])
     | with_reducible first | refine z2w ?_ | refine z2v ?_ | refine z0t ?_ | refine z2u ?_ | refine z1w ?_ | refine z3v ?_ | refine qs ?_ | refine qb ?_ | refine z4d ?_ | refine qw ?_ | refine z4g ?_ | refine z4f ?_ | refine qi ?_ | refine qg (h := ?_) | refine qx (h := ?_) | refine qy (h := ?_) | refine qa ?_ | refine qc ?_ | refine ql ?_ | refine qp ?_ | refine z2i ?_ | rfl
     | (with_reducible first | refine ok_lt ?_ ?_ | refine ok_le ?_ ?_ | refine z3z ?_ ?_ | refine z4c ?_ ?_ | refine z3y ?_ ?_ | refine qu ?_ ?_ | refine ok_if ?_ ?_) <;> intro _ <;> try (exfalso; omega)
   · rename_i h4
     rw [h4] at hhd
     have htl : s.tail = s.drop 1 := by simp
     have hslen : s.length ≤ 120 := by omega
     refine zuy s.length (fun k (a : Nat × List (List Int)) => (s, (a.1 : Int), ((k + 1 : Nat) : Int), a.2))
       (fun k a => a.2.all partI = true ∧ a.2.length ≤ 10 ∧ ((k + 1 ≤ s.length ∧ z2f 47 s.tail = a.2 ++ z2f 47 (s.drop a.1) ∧ a.1 ≤ k + 1 ∧ 1 ≤ a.1 ∧ ∀ x, x ∈ (s.drop a.1).take (k + 1 - a.1) → x ≠ 47) ∨ (k = s.length ∧ a.2 = z2f 47 s.tail)))
       (1, []) rfl ⟨rfl, Nat.zero_le _, .inl ⟨by omega, by rw [htl]; rfl, by omega, Nat.le_refl _, by simp⟩⟩ (fun a hI => ?_) fun k a hk hI => ?_
     · obtain ⟨f, out⟩ := a
       obtain ⟨g1, g2, g3⟩ := hI
       dsimp only at g1 g2 g3
       have g4 : out = z2f 47 s.tail := by
         rcases g3 with ⟨h, _⟩ | ⟨_, h⟩
         · omega
         · exact h
       unfold z1l z6l
       dsimp only
       repeat' first
         | (dsimp only [Int.toNat_natCast, List.length_nil])
         | with_reducible first | refine z2w ?_ | refine z2v ?_ | refine z0t ?_ | refine z2u ?_ | refine z1w ?_ | refine z3v ?_ | refine qs ?_ | refine qb ?_ | refine z4d ?_ | refine qw ?_ | refine z4g ?_ | refine z4f ?_ | refine qi ?_ | refine qg (h := ?_) | refine qx (h := ?_) | refine qy (h := ?_) | refine qa ?_ | refine qc ?_ | refine ql ?_ | refine qp ?_ | refine z2i ?_ | rfl
         | (with_reducible first | refine ok_lt ?_ ?_ | refine ok_le ?_ ?_ | refine z3z ?_ ?_ | refine z4c ?_ ?_ | refine z3y ?_ ?_ | refine qu ?_ ?_ | refine ok_if ?_ ?_) <;> intro _ <;> try (exfalso; omega)
       unfold z1c
       rw [if_neg (by rintro (h | h); omega; exact h hhd), if_neg h1, ← g4, if_neg (by rw [g1]; simp; omega)]
     · obtain ⟨f, out⟩ := a
       obtain ⟨g1, g2, g3⟩ := hI
       dsimp only at g1 g2 g3 ⊢
       have g3 : k + 1 ≤ s.length ∧ z2f 47 s.tail = out ++ z2f 47 (s.drop f) ∧ f ≤ k + 1 ∧ 1 ≤ f ∧ ∀ x, x ∈ (s.drop f).take (k + 1 - f) → x ≠ 47 := by
         rcases g3 with h | ⟨h, _⟩
         · exact h
         · omega
       obtain ⟨h5, h6, h7, h8, h9⟩ := g3
       unfold z1l z6l
       dsimp only
       repeat' first
         | (dsimp only [Int.toNat_natCast, List.length_nil])
         | with_reducible first | refine z2w ?_ | refine z2v ?_ | refine z0t ?_ | refine z2u ?_ | refine z1w ?_ | refine z3v ?_ | refine qs ?_ | refine qb ?_ | refine z4d ?_ | refine qw ?_ | refine z4g ?_ | refine z4f ?_ | refine qi ?_ | refine qg (h := ?_) | refine qx (h := ?_) | refine qy (h := ?_) | refine qa ?_ | refine qc ?_ | refine ql ?_ | refine qp ?_ | refine z2i ?_ | rfl
         | (with_reducible first | refine ok_lt ?_ ?_ | refine ok_le ?_ ?_ | refine z3z ?_ ?_ | refine z4c ?_ ?_ | refine z3y ?_ ?_ | refine qu ?_ ?_ | refine ok_if ?_ ?_) <;> intro _ <;> try (exfalso; omega)
       · have hp : Bs (subL s (f : Int) ((k + 1 : Nat) : Int)) ∧ (subL s (f : Int) ((k + 1 : Nat) : Int)).length ≤ 1000 := by
           rw [zra]
           exact ⟨fun x hx => hb x (List.mem_of_mem_drop (List.mem_of_mem_take hx)), by rw [List.length_take, List.length_drop]; omega⟩
         rename_i h10 h11 h12
         have hpc : z2f 47 (s.drop f) = subL s (f : Int) ((k + 1 : Nat) : Int) :: z2f 47 (s.drop (k + 2)) := by
           have hk : k + 1 < s.length := by omega
           have e : s.drop f = (s.drop f).take (k + 1 - f) ++ 47 :: s.drop (k + 2) := by
             conv => lhs; rw [← List.take_append_drop (k + 1 - f) (s.drop f)]
             rw [List.drop_drop, show f + (k + 1 - f) = k + 1 by omega, List.drop_eq_getElem_cons hk, h12]
           conv => lhs; rw [e]
           rw [zih 47 _ _ h9, zra]
         rw [zv3 hp.1 hp.2]
         rw [hpc] at h6
         generalize subL s (f : Int) ((k + 1 : Nat) : Int) = p at *
         repeat' first
           | (dsimp only [Int.toNat_natCast, List.length_nil])
           | with_reducible first | refine z2w ?_ | refine z2v ?_ | refine z0t ?_ | refine z2u ?_ | refine z1w ?_ | refine z3v ?_ | refine qs ?_ | refine qb ?_ | refine z4d ?_ | refine qw ?_ | refine z4g ?_ | refine z4f ?_ | refine qi ?_ | refine qg (h := ?_) | refine qx (h := ?_) | refine qy (h := ?_) | refine qa ?_ | refine qc ?_ | refine ql ?_ | refine qp ?_ | refine z2i ?_ | rfl
           | (with_reducible first | refine ok_lt ?_ ?_ | refine ok_le ?_ ?_ | refine z3z ?_ ?_ | refine z4c ?_ ?_ | refine z3y ?_ ?_ | refine qu ?_ ?_ | refine ok_if ?_ ?_) <;> intro _ <;> try (exfalso; omega)
         · rename_i hpt h13
           exact (zrj hhd h1 (by omega) h6 (.inl (by simp; omega))).symm
         · rename_i hpt h13
           refine ⟨(k + 2, out ++ [p]), ?_, ?_, by simp; omega, .inl ⟨by omega, by rw [h6]; simp, by omega, by omega, by simp⟩⟩
           · rw [z3h (by omega)]
           · rw [List.all_append, g1, List.all_cons, hpt]; rfl
         · rename_i hpt
           refine (zrj hhd h1 (by omega) h6 (.inr ?_)).symm
           rw [List.all_append, List.all_cons, hpt]; simp
       · rename_i h10 h11 h12
         refine ⟨(f, out), by rw [z3h (by omega)], g1, g2, .inl ⟨by omega, h6, by omega, h8, fun x hx => ?_⟩⟩
         have hk : k + 1 < s.length := by omega
         have e : (s.drop f).take (k + 2 - f) = (s.drop f).take (k + 1 - f) ++ [s[k + 1]] := by
           have hi : k + 1 - f < (s.drop f).length := by rw [List.length_drop]; omega
           have : (s.drop f)[k + 1 - f] = s[k + 1] := by
             rw [List.getElem_drop]; congr 1; omega
           rw [show k + 2 - f = (k + 1 - f) + 1 by omega, List.take_succ_eq_append_getElem hi, this]
         rw [show k + 1 + 1 - f = k + 2 - f by omega, e, List.mem_append] at hx
         rcases hx with hx | hx
         · exact h9 x hx
         · simp at hx; subst hx; exact h12
       · rename_i h10 h11
         have hk : k + 1 = s.length := by omega
         have hp : Bs (subL s (f : Int) ((k + 1 : Nat) : Int)) ∧ (subL s (f : Int) ((k + 1 : Nat) : Int)).length ≤ 1000 := by
           rw [zra]
           exact ⟨fun x hx => hb x (List.mem_of_mem_drop (List.mem_of_mem_take hx)), by rw [List.length_take, List.length_drop]; omega⟩
         have e : subL s (f : Int) ((k + 1 : Nat) : Int) = s.drop f := by
           rw [zra]
           exact List.take_of_length_le (by rw [List.length_drop]; omega)
         have e2 : (s.drop f).take (k + 1 - f) = s.drop f := List.take_of_length_le (by rw [List.length_drop]; omega)
         rw [e2] at h9
         rw [zv3 hp.1 hp.2]
         rw [zh1 47 _ h9, ← e] at h6
         generalize subL s (f : Int) ((k + 1 : Nat) : Int) = p at *
         repeat' first
           | (dsimp only [Int.toNat_natCast, List.length_nil])
           | with_reducible first | refine z2w ?_ | refine z2v ?_ | refine z0t ?_ | refine z2u ?_ | refine z1w ?_ | refine z3v ?_ | refine qs ?_ | refine qb ?_ | refine z4d ?_ | refine qw ?_ | refine z4g ?_ | refine z4f ?_ | refine qi ?_ | refine qg (h := ?_) | refine qx (h := ?_) | refine qy (h := ?_) | refine qa ?_ | refine qc ?_ | refine ql ?_ | refine qp ?_ | refine z2i ?_ | rfl
           | (with_reducible first | refine ok_lt ?_ ?_ | refine ok_le ?_ ?_ | refine z3z ?_ ?_ | refine z4c ?_ ?_ | refine z3y ?_ ?_ | refine qu ?_ ?_ | refine ok_if ?_ ?_) <;> intro _ <;> try (exfalso; omega)
         · rename_i hpt h13
           exact (zrj hhd h1 (by omega) h6 (.inl (by simp; omega))).symm
         · rename_i hpt h13
           refine ⟨(k + 2, out ++ [p]), ?_, ?_, by simp; omega, .inr ⟨by omega, by rw [h6]⟩⟩
           · rw [z3h (by omega)]
           · rw [List.all_append, g1, List.all_cons, hpt]; rfl
         · rename_i hpt
           refine (zrj hhd h1 (by omega) h6 (.inr ?_)).symm
           rw [List.all_append, List.all_cons, hpt]; simp
   · rename_i h4
     unfold z1c
     rw [if_pos (.inr (by rw [hhd]; simpa using h4))]
end Go.Proofs.YtomgkgngbpnngaaGreatDoor
set_option maxRecDepth 100000
set_option linter.unusedVariables false
set_option linter.unusedSimpArgs false
namespace Go.Proofs.YtomgkgngbpnngaaGreatDoor
open Go.Tm Go.Ab Go.Lib
def diff (a b : List (List Int)) (n : Nat) : Bool := (List.range n).any fun i => !decide (a[i]? = b[i]?)
theorem zij {a b : List (List Int)} {n : Nat} : diff a b n = false ↔ ∀ i, i < n → a[i]? = b[i]? := by
 unfold diff
 rw [List.any_eq_false]
 constructor
 · intro h i hi
   have := h i (List.mem_range.2 hi)
   simpa using this
 · intro h i hi
   simp [h i (List.mem_range.1 hi)]
theorem z1cc {a b : List (List Int)} (hl : a.length = b.length) : diff a b a.length = !decide (a = b) := by
 by_cases h : a = b
 · subst h
   rw [decide_eq_true rfl, zij.2 fun _ _ => rfl]; rfl
 · rw [decide_eq_false h]
   cases hd : diff a b a.length with
   | true => rfl
   | false =>
     exfalso
     apply h
     rw [zij] at hd
     apply List.ext_getElem? 
     intro i
     by_cases hi : i < a.length
     · exact hd i hi
     · rw [List.getElem?_eq_none (by omega), List.getElem?_eq_none (by omega)]
theorem zif {a b : List (List Int)} : b.isPrefixOf a = true ↔ b.length ≤ a.length ∧ ∀ i, i < b.length → a[i]? = b[i]? := by
 rw [List.isPrefixOf_iff_prefix]
 constructor
 · rintro ⟨t, rfl⟩
   exact ⟨by simp, fun i hi => by rw [List.getElem?_append_left hi]⟩
 · rintro ⟨h1, h2⟩
   refine ⟨a.drop b.length, ?_⟩
   conv => rhs; rw [← List.take_append_drop b.length a]
   congr 1
   apply List.ext_getElem?
   intro i
   rw [List.getElem?_take]
   split
   · rename_i hi; exact (h2 i hi).symm
   · rename_i hi; exact List.getElem?_eq_none (by omega)
theorem zs3 {a b : List (List Int)} (hl : b.length ≤ a.length) : diff a b b.length = !b.isPrefixOf a := by
 cases hd : diff a b b.length with
 | false =>
   have := zif.2 ⟨hl, zij.1 hd⟩
   rw [this]; rfl
 | true =>
   cases hp : b.isPrefixOf a with
   | false => rfl
   | true =>
     have := zij.2 (zif.1 hp).2
     rw [this] at hd; cases hd
def z1h (s top : List Int) : Bool := decide ((z1c s).2 = 0) && decide ((z1c top).2 = 0) && (z1c top).1.isPrefixOf (z1c s).1
theorem zl3 (s : List Int) : (z1c s).1.length ≤ 10 := by
 unfold z1c
 split
 · exact Nat.zero_le _
 · split
   · exact Nat.zero_le _
   · split
     · exact Nat.zero_le _
     · rename_i h; simp only [not_or] at h; exact Nat.le_of_not_lt h.1
theorem zkw {s top : List Int} (hs : Bs s) (ht : Bs top) (ls : s.length ≤ 1000) (lt : top.length ≤ 1000) : za2 s top = some (z1h s top) := by
 refine ok_is ?_
 unfold za2 z1h
 rw [zgh hs ls, zgh ht lt]
 have l1 := zl3 s
 have l2 := zl3 top
 generalize z1c s = A at *
 generalize z1c top = B at *
 repeat' first
   | (dsimp only [Int.toNat_natCast, List.length_nil])
   | with_reducible first | refine z2w ?_ | refine z2v ?_ | refine z0t ?_ | refine z2u ?_ | refine z1w ?_ | refine z3v ?_ | refine qs ?_ | refine qb ?_ | refine z4d ?_ | refine qw ?_ | refine z4g ?_ | refine z4f ?_ | refine qi ?_ | refine qg (h := ?_) | refine qx (h := ?_) | refine qy (h := ?_) | refine qa ?_ | refine qc ?_ | refine ql ?_ | refine qp ?_ | refine z2i ?_ | rfl
   | (with_reducible first | refine ok_lt ?_ ?_ | refine ok_le ?_ ?_ | refine z3z ?_ ?_ | refine z4c ?_ ?_ | refine z3y ?_ ?_ | refine qu ?_ ?_ | refine ok_if ?_ ?_) <;> intro _ <;> try (exfalso; omega)
 · rename_i h1 h2 h3
   rw [h1, h2]
   have : B.1.isPrefixOf A.1 = false := by
     cases hp : B.1.isPrefixOf A.1 with
     | false => rfl
     | true => have := (zif.1 hp).1; omega
   rw [this]; rfl
 · rename_i h1 h2 h3
   rw [h1, h2]
   have hle : B.1.length ≤ A.1.length := by omega
   have hloop : loopC z1f (A.1, B.1, (B.1.length : Int), 0) = some (if diff A.1 B.1 B.1.length = true then .inr false else .inl ()) := by
     refine zo5 _ B.1.length (fun i => (A.1, B.1, (B.1.length : Int), (i : Int))) (fun i => !decide (A.1[i]? = B.1[i]?)) _ _ ?_ fun i hi => ?_
     · unfold z1f z6z
       dsimp only
       rw [ltI_f (by omega)]; rfl
     · unfold z1f z6z
       dsimp only
       rw [ltI_t (by omega), cond_true, z2k hi, z2k (show i < A.1.length by omega), z3h (by omega)]
       simp only [Option.bind_some]
       rw [getE hi, getE (show i < A.1.length by omega)]
       by_cases e : A.1[i] = B.1[i]
       · rw [eqS_t e, decide_eq_true (by rw [e])]; rfl
       · rw [eqS_f e, decide_eq_false (fun h => e (Option.some.inj h))]; rfl
   rw [hloop, zs3 hle]
   cases B.1.isPrefixOf A.1 <;> exact z0t (z0t rfl)
 · rename_i h1 h2; rw [h1, decide_eq_false h2]; rfl
 · rename_i h; rw [decide_eq_false h]; rfl
end Go.Proofs.YtomgkgngbpnngaaGreatDoor
set_option maxRecDepth 100000
set_option linter.unusedVariables false
set_option linter.unusedSimpArgs false
namespace Go.Proofs.YtomgkgngbpnngaaGreatDoor
open Go.Tm Go.Ab Go.Lib
def joinT (l : List (List Int)) : List Int := l.flatMap fun p => 47 :: p
def joinI (l : List (List Int)) : List Int := if l = [] then [47] else joinT l
theorem znx (p : List Int) (l : List (List Int)) : joinT (p :: l) = 47 :: (p ++ joinT l) := by simp [joinT]
theorem zrz : ∀ (t : List Int), joinT (z2f 47 t) = 47 :: t
 | [] => rfl
 | x :: l => by
   have ih := zrz l
   rw [z2f]
   split
   · rename_i h; subst h
     rw [znx, ih]; rfl
   · split
     · rename_i h; rw [h] at ih; simp [joinT] at ih
     · rename_i p ps h
       rw [h, znx] at ih
       rw [znx, List.cons_append, (List.cons.inj ih).2]
theorem zzl {s : List Int} (h : (z1c s).2 = 0) : s = joinI (z1c s).1 := by
 unfold z1c at h ⊢
 split at h
 · cases h
 · rename_i h0
   rw [if_neg h0]
   simp only [not_or, Decidable.not_not] at h0
   split at h
   · rename_i h1; rw [if_pos h1, h1]; rfl
   · rename_i h1
     rw [if_neg h1]
     split at h
     · cases h
     · rename_i h2
       rw [if_neg h2]
       have hs : s = 47 :: s.tail := by
         cases s with
         | nil => simp at h0
         | cons x l => have := h0.2; simp at this; rw [this]; rfl
       have hj := zrz s.tail
       unfold joinI
       split
       · rename_i e; dsimp only at e; rw [e] at hj; simp [joinT] at hj
       · dsimp only; rw [hj]; exact hs
end Go.Proofs.YtomgkgngbpnngaaGreatDoor
set_option maxRecDepth 100000
set_option linter.unusedVariables false
set_option linter.unusedSimpArgs false
namespace Go.Proofs.YtomgkgngbpnngaaGreatDoor
open Go.Tm Go.Ab Go.Lib
theorem b8_lt {x y : Int} (hx : 0 ≤ x ∧ x < 256) (hy : 0 ≤ y ∧ y < 256) : b8 x < b8 y ↔ x < y := by
 rw [UInt8.lt_iff_toNat_lt]
 have h1 := zce hx
 have h2 := zce hy
 omega
theorem z17g : ∀ {s t : List Int}, Bs s → Bs t → (ltS s t = true ↔ s.map b8 < t.map b8)
 | s, [], _, _ => by simp [ltS]
 | [], b :: y, _, _ => by simp [ltS]
 | a :: x, b :: y, hs, ht => by
   have ha := hs a (by simp)
   have hb := ht b (by simp)
   have ih := z17g (s := x) (t := y) (fun z hz => hs z (by simp [hz])) (fun z hz => ht z (by simp [hz]))
   have e : b8 a = b8 b ↔ a = b := ⟨znb ha hb, fun h => by rw [h]⟩
   simp only [ltS, List.map_cons, List.cons_lt_cons_iff, b8_lt ha hb, e, ← ih, Bool.or_eq_true, Bool.and_eq_true, ltI, eqI, decide_eq_true_eq]
theorem zeh : ∀ (s : List Int), ltS s s = false
 | [] => rfl
 | a :: x => by simp [ltS, ltI, zeh x]
theorem zej : ∀ {r s t : List Int}, ltS r s = true → ltS s t = true → ltS r t = true
 | r, s, [], _, h => by simp [ltS] at h
 | r, [], c :: z, h, _ => by simp [ltS] at h
 | [], b :: y, c :: z, _, _ => rfl
 | a :: x, b :: y, c :: z, h1, h2 => by
   simp only [ltS, Bool.or_eq_true, Bool.and_eq_true, ltI, eqI, decide_eq_true_eq] at h1 h2 ⊢
   rcases h1 with h1 | ⟨h1, g1⟩ <;> rcases h2 with h2 | ⟨h2, g2⟩
   · left; omega
   · left; omega
   · left; omega
   · right; exact ⟨by omega, zej g1 g2⟩
theorem zvx : ∀ (s t : List Int), ltS s t = true ∨ s = t ∨ ltS t s = true
 | [], [] => .inr (.inl rfl)
 | [], _ :: _ => .inl rfl
 | _ :: _, [] => .inr (.inr rfl)
 | a :: x, b :: y => by
   simp only [ltS, Bool.or_eq_true, Bool.and_eq_true, ltI, eqI, decide_eq_true_eq, List.cons.injEq]
   rcases Int.lt_trichotomy a b with h | h | h
   · exact .inl (.inl h)
   · subst h
     rcases zvx x y with h | h | h
     · exact .inl (.inr ⟨rfl, h⟩)
     · exact .inr (.inl ⟨rfl, h⟩)
     · exact .inr (.inr (.inr ⟨rfl, h⟩))
   · exact .inr (.inr (.inl h))
def Inc (l : List (List Int)) : Prop := l.Pairwise fun a b => ltS a b = true
theorem zsr : ∀ {l m : List (List Int)}, Inc l → Inc m → (∀ x, x ∈ l ↔ x ∈ m) → l = m
 | [], [], _, _, _ => rfl
 | [], b :: m, _, _, h => absurd ((h b).2 (by simp)) (by simp)
 | a :: l, [], _, _, h => absurd ((h a).1 (by simp)) (by simp)
 | a :: l, b :: m, h1, h2, h => by
   have h1' := List.pairwise_cons.1 h1
   have h2' := List.pairwise_cons.1 h2
   have e : a = b := by
     rcases List.mem_cons.1 ((h a).1 (by simp)) with e | ha
     · exact e
     · rcases List.mem_cons.1 ((h b).2 (by simp)) with e | hb
       · exact e.symm
       · have := zej (h1'.1 b hb) (h2'.1 a ha)
         rw [zeh] at this; cases this
   subst e
   congr 1
   refine zsr h1'.2 h2'.2 fun x => ⟨fun hx => ?_, fun hx => ?_⟩
   · rcases List.mem_cons.1 ((h x).1 (by simp [hx])) with e | hm
     · subst e; have := h1'.1 x hx; rw [zeh] at this; cases this
     · exact hm
   · rcases List.mem_cons.1 ((h x).2 (by simp [hx])) with e | hm
     · subst e; have := h2'.1 x hx; rw [zeh] at this; cases this
     · exact hm
theorem ztv {d : Array (List UInt8)} (hd : ∀ i j, i < j → j < d.size → d[i]! ≤ d[j]!) : ∀ m, m ≤ d.size →
   (compactUpTo d m).Pairwise (· < ·) ∧ (∀ x, x ∈ compactUpTo d m ↔ ∃ j, j < m ∧ d[j]! = x)
 | 0, _ => by simp [compactUpTo]
 | m + 1, hm => by
   obtain ⟨h1, h2⟩ := ztv hd m (by omega)
   rw [compactUpTo_succ]
   cases hk : keeps d m with
   | true =>
     rw [if_pos rfl]
     simp only [keeps, decide_eq_true_eq] at hk
     refine ⟨List.pairwise_append.2 ⟨h1, by simp, fun a ha b hb => ?_⟩, fun x => ?_⟩
     · simp at hb; subst hb
       obtain ⟨j, hj, rfl⟩ := (h2 a).1 ha
       rcases hk with hk | hk
       · omega
       · have e1 : d[m - 1]! ≤ d[m]! := hd (m - 1) m (by omega) (by omega)
         have e2 : d[j]! ≤ d[m - 1]! := by
           rcases Nat.lt_or_ge j (m - 1) with h | h
           · exact hd j (m - 1) h (by omega)
           · have : j = m - 1 := by omega
             subst this; exact List.le_refl _
         have e3 : d[m - 1]! < d[m]! := by
           rcases List.le_iff_lt_or_eq.1 e1 with h | h
           · exact h
           · exact absurd h.symm hk
         exact List.lt_of_le_of_lt e2 e3
     · rw [List.mem_append, h2]
       simp only [List.mem_singleton]
       refine ⟨?_, ?_⟩
       · rintro (⟨j, hj, rfl⟩ | rfl)
         · exact ⟨j, by omega, rfl⟩
         · exact ⟨m, by omega, rfl⟩
       · rintro ⟨j, hj, rfl⟩
         rcases Nat.lt_or_ge j m with h | h
         · exact .inl ⟨j, h, rfl⟩
         · have : j = m := by omega
           subst this; exact .inr rfl
   | false =>
     rw [if_neg (by simp), List.append_nil]
     simp only [keeps, decide_eq_false_iff_not, not_or, Decidable.not_not] at hk
     refine ⟨h1, fun x => ?_⟩
     rw [h2]
     refine ⟨fun ⟨j, hj, e⟩ => ⟨j, by omega, e⟩, fun ⟨j, hj, e⟩ => ?_⟩
     rcases Nat.lt_or_ge j m with h | h
     · exact ⟨j, h, e⟩
     · have : j = m := by omega
       subst this
       exact ⟨j - 1, by omega, by rw [← hk.2]; exact e⟩
def setL (l : List (List Int)) : List (List Int) := compL (sortL l)
theorem zjq {l : List (List Int)} (hb : ∀ s, s ∈ l → Bs s) : Inc (setL l) ∧ ∀ x, x ∈ setL l ↔ x ∈ l := by
 have e0 : (sortL l).map byts = (l.map byts).mergeSort fun x y => decide (x ≤ y) := by
   unfold sortL
   rw [List.map_map]
   have : ∀ b : List UInt8, (byts ∘ nums) b = b := fun b => by simp [Function.comp, byts, zwg]
   rw [funext this, List.map_id']
 have srt : ((l.map byts).mergeSort fun x y => decide (x ≤ y)).Pairwise (· ≤ ·) := by
   have := List.pairwise_mergeSort (le := fun (x y : List UInt8) => decide (x ≤ y)) (fun a b c h1 h2 => by
     simp only [decide_eq_true_eq] at *; exact List.le_trans h1 h2) (fun a b => by
     simp only [Bool.or_eq_true, decide_eq_true_eq]; exact List.le_total a b) (l.map byts)
   exact this.imp fun h => by simpa using h
 have hmem : ∀ x, x ∈ ((l.map byts).mergeSort fun x y => decide (x ≤ y)) ↔ x ∈ l.map byts := fun x => (List.mergeSort_perm _ _).mem_iff
 generalize hz : ((l.map byts).mergeSort fun x y => decide (x ≤ y)) = zs at *
 have hc := ztv (d := zs.toArray) (fun i j hij hj => by
   have hj' : j < zs.length := by simpa using hj
   rw [getElem!_pos _ i (by simp; omega), getElem!_pos _ j hj]
   simp only [List.getElem_toArray]
   exact List.pairwise_iff_getElem.1 srt i j (by omega) hj' hij) zs.length (by simp)
 have hcm : ∀ x, x ∈ compact zs ↔ x ∈ l.map byts := fun x => by
   show x ∈ compactUpTo zs.toArray zs.length ↔ _
   rw [hc.2, ← hmem]
   refine ⟨fun ⟨j, hj, e⟩ => ?_, fun h => ?_⟩
   · rw [getElem!_pos _ j (by simpa using hj)] at e
     subst e
     exact List.getElem_mem _
   · obtain ⟨j, hj, rfl⟩ := List.mem_iff_getElem.1 h
     exact ⟨j, hj, by rw [getElem!_pos _ j (by simpa using hj)]; simp⟩
 have hx : ∀ b, b ∈ l.map byts → ∃ s, s ∈ l ∧ b = s.map b8 ∧ nums b = s := fun b h => by
   obtain ⟨s, hs, rfl⟩ := List.mem_map.1 h
   exact ⟨s, hs, zge s, by rw [zge]; exact zr9 (hb s hs)⟩
 have e1 : setL l = (compact zs).map nums := by
   unfold setL compL
   rw [e0]
 rw [e1]
 refine ⟨?_, fun x => ?_⟩
 · unfold Inc
   rw [List.pairwise_map]
   refine (List.Pairwise.imp_of_mem (fun {a b} ha hb' h => ?_) hc.1)
   obtain ⟨s, hs, ea, en⟩ := hx a ((hcm a).1 ha)
   obtain ⟨t, ht, eb, em⟩ := hx b ((hcm b).1 hb')
   rw [en, em, z17g (hb s hs) (hb t ht), ← ea, ← eb]
   exact h
 · rw [List.mem_map]
   refine ⟨fun ⟨b, h, e⟩ => ?_, fun h => ?_⟩
   · obtain ⟨s, hs, _, en⟩ := hx b ((hcm b).1 h)
     rw [← e, en]; exact hs
   · exact ⟨byts x, (hcm _).2 (List.mem_map.2 ⟨x, h, rfl⟩), by rw [zge]; exact zr9 (hb x h)⟩
end Go.Proofs.YtomgkgngbpnngaaGreatDoor