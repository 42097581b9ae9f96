/- Vectors: what the functions come to, in plain Lean. -/
import Derived.Test.YtfjikgkcleefiaaDoorVecA
import Derived.Test.YtfjikgkcleefiaaDoorTm14
set_option linter.unusedSimpArgs false
namespace Go.Proofs.YtfjikgkcleefiaaDoor
open Go.Tm Go.Ab

theorem w_succ {i : Nat} (h : i < 8) : W64 ((i : Int) + 1) = ((i + 1 : Nat) : Int) := by
  show IntKind.wrap .i64 ((i : Int) + 1) = _
  have : i = 0 ∨ i = 1 ∨ i = 2 ∨ i = 3 ∨ i = 4 ∨ i = 5 ∨ i = 6 ∨ i = 7 := by omega
  rcases this with rfl | rfl | rfl | rfl | rfl | rfl | rfl | rfl <;> decide
theorem lt8 {i : Nat} (h : i < 8) : ltI (i : Int) 8 = true := by simp [ltI]; omega
theorem lt88 : ltI ((8 : Nat) : Int) 8 = false := by decide
theorem in8 {i : Nat} (h : i < 8) : inI (i : Int) 8 = true := by simp [inI, leI, ltI]; omega
theorem idx8 {α : Type} (l : List α) (i : Nat) : idxI l (i : Int) = l[i]? := by simp [idxI, leI]
theorem get8 {α : Type} {l : List α} (h : l.length = 8) {i : Nat} (hi : i < 8) : ∃ x, l[i]? = some x ∧ l.drop i = x :: l.drop (i + 1) :=
  ⟨l[i]'(by omega), by simp [h, hi], List.drop_eq_getElem_cons (by omega)⟩
theorem drop8 {α : Type} {l : List α} (h : l.length = 8) : l.drop 8 = [] := List.drop_of_length_le (by omega)

def leqL : List Int → List Int → Bool
  | x :: xs, y :: ys => leI x y && leqL xs ys
  | _, _ => true

theorem leq_is {a b : List Int} (ha : a.length = 8) (hb : b.length = 8) : vec_Leq a b = some (leqL a b) := by
  unfold vec_Leq
  rw [show loopC vec_Leq_l1_0_1_0g (a, 0, b) = some (bif leqL a b then Sum.inl () else Sum.inr false) from
    loop_run vec_Leq_l1_0_1_0g (fun i => (a, (i : Int), b)) (fun i => bif leqL (a.drop i) (b.drop i) then Sum.inl () else Sum.inr false) 8 ?_ ?_]
  · cases leqL a b <;> rfl
  · simp only [vec_Leq_l1_0_1_0g, vec_Leq_l1_0_1_0r, lt88, cond_false, drop8 ha, leqL, cond_true]
  · intro i hi
    obtain ⟨x, hx, dx⟩ := get8 ha hi
    obtain ⟨y, hy, dy⟩ := get8 hb hi
    simp only [vec_Leq_l1_0_1_0g, vec_Leq_l1_0_1_0r, lt8 hi, in8 hi, cond_true, idx8, Int.toNat_natCast, hx, hy, Option.bind_some, dx, dy, leqL]
    by_cases h : y < x
    · right
      have : ¬ x ≤ y := by omega
      simp [ltI, leI, h, this]
    · left
      have : x ≤ y := by omega
      simp [ltI, leI, h, this, w_succ hi]

/-- maxI, minI place by place -/
def join (f : Int → Int → Int) (a b : List Int) (i : Nat) : List Int := (List.zipWith f a b).take i ++ a.drop i

theorem join_len {f : Int → Int → Int} {a b : List Int} (ha : a.length = 8) (hb : b.length = 8) {i : Nat} (hi : i ≤ 8) : (join f a b i).length = 8 := by
  simp [join, ha, hb]; omega
theorem join_zero {f : Int → Int → Int} {a b : List Int} : join f a b 0 = a := by simp [join]
theorem join_all {f : Int → Int → Int} {a b : List Int} (ha : a.length = 8) (hb : b.length = 8) : join f a b 8 = List.zipWith f a b := by
  simp [join, drop8 ha]; rw [List.take_of_length_le (by simp [ha, hb])]
theorem join_get {f : Int → Int → Int} {a b : List Int} (ha : a.length = 8) (hb : b.length = 8) {i : Nat} (hi : i < 8) : (join f a b i)[i]? = a[i]? := by
  unfold join
  have e1 : ((List.zipWith f a b).take i).length = i := by simp [ha, hb]; omega
  rw [List.getElem?_append_right (by omega), List.getElem?_drop, e1]
  congr 1; omega
theorem join_set {f : Int → Int → Int} {a b : List Int} (ha : a.length = 8) (hb : b.length = 8) {i : Nat} (hi : i < 8) {x y : Int} (hx : a[i]? = some x) (hy : b[i]? = some y) :
    (join f a b i).set i (f x y) = join f a b (i + 1) := by
  apply List.ext_getElem?
  intro j
  unfold join
  have hz : (List.zipWith f a b)[i]? = some (f x y) := by rw [List.getElem?_zipWith, hx, hy]
  have hl : (List.zipWith f a b).length = 8 := by simp [ha, hb]
  have e1 : ((List.zipWith f a b).take i).length = i := by simp [ha, hb]; omega
  have e2 : ((List.zipWith f a b).take (i + 1)).length = i + 1 := by simp [ha, hb]; omega
  by_cases hj : i = j
  · subst hj
    rw [List.getElem?_set_self (by simp [ha, hb]; omega), List.getElem?_append_left (by omega), List.getElem?_take, if_pos (by omega), hz]
  · rw [List.getElem?_set_ne hj]
    rcases Nat.lt_or_ge j i with h | h
    · rw [List.getElem?_append_left (by omega), List.getElem?_append_left (by omega), List.getElem?_take, List.getElem?_take, if_pos h, if_pos (by omega)]
    · rw [List.getElem?_append_right (by omega), List.getElem?_append_right (by omega), e1, e2, List.getElem?_drop, List.getElem?_drop]
      congr 1; omega

theorem join_is {a b : List Int} (ha : a.length = 8) (hb : b.length = 8) : vec_Join a b = some (List.zipWith maxI a b) := by
  unfold vec_Join
  rw [show loopC vec_Join_l1_0_1_0g (b, 0, a, List.replicate 8 0) = some (List.zipWith maxI a b, List.replicate 8 0) from ?_]
  · rfl
  · rw [← join_all (f := maxI) ha hb]
    have := loop_run vec_Join_l1_0_1_0g (fun i => (b, (i : Int), join maxI a b i, List.replicate 8 0)) (fun i => (join maxI a b 8, List.replicate 8 0)) 8 ?_ ?_
    · simpa only [join_zero, Int.ofNat_zero, Int.natCast_zero] using this
    · simp only [vec_Join_l1_0_1_0g, vec_Join_l1_0_1_0r, lt88, cond_false]
    · intro i hi
      left
      obtain ⟨x, hx, dx⟩ := get8 ha hi
      obtain ⟨y, hy, dy⟩ := get8 hb hi
      simp only [vec_Join_l1_0_1_0g, vec_Join_l1_0_1_0r, lt8 hi, in8 hi, cond_true, idx8, Int.toNat_natCast, join_get ha hb hi, hx, hy, Option.bind_some, w_succ hi, join_set ha hb hi hx hy, and_self]

theorem meet_is {a b : List Int} (ha : a.length = 8) (hb : b.length = 8) : vec_Meet a b = some (List.zipWith minI a b) := by
  unfold vec_Meet
  rw [show loopC vec_Meet_l1_0_1_0g (b, 0, a, List.replicate 8 0) = some (List.zipWith minI a b, List.replicate 8 0) from ?_]
  · rfl
  · rw [← join_all (f := minI) ha hb]
    have := loop_run vec_Meet_l1_0_1_0g (fun i => (b, (i : Int), join minI a b i, List.replicate 8 0)) (fun i => (join minI a b 8, List.replicate 8 0)) 8 ?_ ?_
    · simpa only [join_zero, Int.ofNat_zero, Int.natCast_zero] using this
    · simp only [vec_Meet_l1_0_1_0g, vec_Meet_l1_0_1_0r, lt88, cond_false]
    · intro i hi
      left
      obtain ⟨x, hx, dx⟩ := get8 ha hi
      obtain ⟨y, hy, dy⟩ := get8 hb hi
      simp only [vec_Meet_l1_0_1_0g, vec_Meet_l1_0_1_0r, lt8 hi, in8 hi, cond_true, idx8, Int.toNat_natCast, join_get ha hb hi, hx, hy, Option.bind_some, w_succ hi, join_set ha hb hi hx hy, and_self]

/-! ### the document's -/
def ltL : List Int → List Int → Bool
  | x :: xs, y :: ys => ltI x y || ltL xs ys
  | _, _ => false

theorem ltL_leq : ∀ {a b : List Int}, ltL a b = !leqL b a
  | [], [] => rfl
  | [], _ :: _ => rfl
  | _ :: _, [] => rfl
  | x :: xs, y :: ys => by
    simp only [ltL, leqL, ltL_leq (a := xs), Bool.not_and]
    congr 1
    by_cases h : x < y
    · have : ¬ y ≤ x := by omega
      simp [ltI, leI, h, this]
    · have : y ≤ x := by omega
      simp [ltI, leI, h, this]

/-- what the document's order answers -/
def ordR (a b : List Int) : Int := bif ltL a b && ltL b a then 2 else bif ltL a b then -1 else bif ltL b a then 1 else 0

theorem ref_order {a b : List Int} (ha : a.length = 8) (hb : b.length = 8) : ref06_Order a b = some (ordR a b) := by
  unfold ref06_Order
  rw [show loopC ref06_Order_l1_1_0_1_0g (false, false, 0, a, b) = some (ltL a b, ltL b a) from
    loop_ind ref06_Order_l1_1_0_1_0g 8 (fun i s x => s.2.2 = ((i : Int), a, b) ∧ x = (s.1 || ltL (a.drop i) (b.drop i), s.2.1 || ltL (b.drop i) (a.drop i))) ?_ ⟨rfl, by simp⟩]
  · unfold ordR
    cases ltL a b <;> cases ltL b a <;> rfl
  · rintro i ⟨less, more, j, a', b'⟩ x hi ⟨h1, h2⟩
    simp only [Prod.mk.injEq] at h1
    obtain ⟨rfl, rfl, rfl⟩ := h1
    subst h2
    rcases Nat.lt_or_ge i 8 with hi | h8
    · right
      obtain ⟨x, hx, dx⟩ := get8 ha hi
      obtain ⟨y, hy, dy⟩ := get8 hb hi
      refine ⟨hi, (less || ltI x y, more || ltI y x, ((i + 1 : Nat) : Int), a', b'), ?_, rfl, ?_⟩
      · simp only [ref06_Order_l1_1_0_1_0g, ref06_Order_l1_1_0_1_0r, lt8 hi, in8 hi, cond_true, Int.toNat_natCast, hx, hy, Option.bind_some, w_succ hi]
        cases less <;> cases more <;> simp [in8 hi, hx, hy, w_succ hi]
      · simp only [dx, dy, ltL, Bool.or_assoc]
    · left
      have : i = 8 := by omega
      subst this
      simp only [ref06_Order_l1_1_0_1_0g, ref06_Order_l1_1_0_1_0r, lt88, cond_false, drop8 ha, drop8 hb, ltL, Bool.or_false]

theorem leqL_refl : ∀ a : List Int, leqL a a = true
  | [] => rfl
  | x :: xs => by simp [leqL, leqL_refl xs, leI]

theorem leqL_anti : ∀ {a b : List Int}, a.length = b.length → leqL a b = true → leqL b a = true → a = b
  | [], [], _, _, _ => rfl
  | [], _ :: _, h, _, _ => by simp at h
  | _ :: _, [], h, _, _ => by simp at h
  | x :: xs, y :: ys, h, h1, h2 => by
    simp only [leqL, Bool.and_eq_true, leI, decide_eq_true_eq] at h1 h2
    rw [leqL_anti (by simpa using h) h1.2 h2.2, show x = y by omega]

theorem leqL_trans : ∀ {a b c : List Int}, a.length = b.length → leqL a b = true → leqL b c = true → leqL a c = true
  | [], [], _, _, _, _ => by simp [leqL]
  | [], _ :: _, _, h, _, _ => by simp at h
  | _ :: _, [], _, h, _, _ => by simp at h
  | x :: xs, y :: ys, [], _, _, _ => rfl
  | x :: xs, y :: ys, z :: zs, h, h1, h2 => by
    simp only [leqL, Bool.and_eq_true, leI, decide_eq_true_eq] at h1 h2 ⊢
    exact ⟨by omega, leqL_trans (by simpa using h) h1.2 h2.2⟩

theorem eq_c0 (a b : List Int) : eqU c0 a b = decide (a = b) := by
  rw [Bool.eq_iff_iff]
  exact ⟨fun h => by have e : a = b := (eqU_iff (u := c0) (x := a) (y := b) rfl).1 h; simpa using e, fun h => (eqU_iff (u := c0) (x := a) (y := b) rfl).2 (show a = b by simpa using h)⟩

theorem order_is {a b : List Int} (ha : a.length = 8) (hb : b.length = 8) : vec_Order a b = some (ordR a b) := by
  unfold vec_Order
  rw [leq_is ha hb, leq_is hb ha, eq_c0]
  unfold ordR
  rw [ltL_leq, ltL_leq]
  by_cases h : a = b
  · subst h
    simp [leqL_refl]
  · have : ¬ (leqL a b = true ∧ leqL b a = true) := fun ⟨h1, h2⟩ => h (leqL_anti (by omega) h1 h2)
    cases h1 : leqL a b <;> cases h2 : leqL b a <;> simp_all


theorem ref_leq {a b : List Int} (ha : a.length = 8) (hb : b.length = 8) : ref06_Leq a b = some (leqL a b) := by
  unfold ref06_Leq
  rw [ref_order ha hb]
  unfold ordR
  rw [ltL_leq, ltL_leq]
  cases h1 : leqL a b <;> cases h2 : leqL b a <;> simp [leI]

/-- the document's join -/
def put (f : Int → Int → Int) (a b : List Int) (i : Nat) : List Int := (List.zipWith f a b).take i ++ List.replicate (8 - i) 0

theorem put_zero {f : Int → Int → Int} {a b : List Int} : put f a b 0 = List.replicate 8 0 := by simp [put]
theorem put_all {f : Int → Int → Int} {a b : List Int} (ha : a.length = 8) (hb : b.length = 8) : put f a b 8 = List.zipWith f a b := by
  simp [put]; rw [List.take_of_length_le (by simp [ha, hb])]
theorem put_get {f : Int → Int → Int} {a b : List Int} (ha : a.length = 8) (hb : b.length = 8) {i : Nat} (hi : i < 8) : (put f a b i)[i]? = some 0 := by
  unfold put
  have e1 : ((List.zipWith f a b).take i).length = i := by simp [ha, hb]; omega
  rw [List.getElem?_append_right (by omega), e1, List.getElem?_replicate, if_pos (by omega)]
theorem put_set {f : Int → Int → Int} {a b : List Int} (ha : a.length = 8) (hb : b.length = 8) {i : Nat} (hi : i < 8) {x y : Int} (hx : a[i]? = some x) (hy : b[i]? = some y) :
    (put f a b i).set i (f x y) = put f a b (i + 1) := by
  apply List.ext_getElem?
  intro j
  unfold put
  have hz : (List.zipWith f a b)[i]? = some (f x y) := by rw [List.getElem?_zipWith, hx, hy]
  have hl : (List.zipWith f a b).length = 8 := by simp [ha, hb]
  have e1 : ((List.zipWith f a b).take i).length = i := by simp [ha, hb]; omega
  have e2 : ((List.zipWith f a b).take (i + 1)).length = i + 1 := by simp [ha, hb]; omega
  by_cases hj : i = j
  · subst hj
    rw [List.getElem?_set_self (by simp [ha, hb]; omega), List.getElem?_append_left (by omega), List.getElem?_take, if_pos (by omega), hz]
  · rw [List.getElem?_set_ne hj]
    rcases Nat.lt_or_ge j i with h | h
    · rw [List.getElem?_append_left (by omega), List.getElem?_append_left (by omega), List.getElem?_take, List.getElem?_take, if_pos h, if_pos (by omega)]
    · rw [List.getElem?_append_right (by omega), List.getElem?_append_right (by omega), e1, e2, List.getElem?_replicate, List.getElem?_replicate]
      by_cases h8 : j < 8
      · rw [if_pos (by omega), if_pos (by omega)]
      · rw [if_neg (by omega), if_neg (by omega)]

theorem set_set {α : Type} (l : List α) (i : Nat) (x y : α) : (l.set i x).set i y = l.set i y := by simp

theorem ref_join {a b : List Int} (ha : a.length = 8) (hb : b.length = 8) : ref06_Join a b = some (List.zipWith maxI a b) := by
  unfold ref06_Join
  rw [show loopC ref06_Join_l1_1_0_1_0g (0, a, b, List.replicate 8 0, List.replicate 8 0) = some (List.replicate 8 0, put maxI a b 8) from ?_]
  · rw [put_all ha hb]; rfl
  · have := loop_run ref06_Join_l1_1_0_1_0g (fun i => ((i : Int), a, b, List.replicate 8 0, put maxI a b i)) (fun i => (List.replicate 8 0, put maxI a b 8)) 8 ?_ ?_
    · simpa only [put_zero, Int.natCast_zero] using this
    · simp only [ref06_Join_l1_1_0_1_0g, ref06_Join_l1_1_0_1_0r, lt88, cond_false]
    · intro i hi
      left
      obtain ⟨x, hx, dx⟩ := get8 ha hi
      obtain ⟨y, hy, dy⟩ := get8 hb hi
      have hs := put_set (f := maxI) ha hb hi hx hy
      have hlt : i < (put maxI a b i).length := (List.getElem?_eq_some_iff.1 (put_get (f := maxI) ha hb hi)).1
      have hself : ((put maxI a b i).set i x)[i]? = some x := List.getElem?_set_self hlt
      simp only [ref06_Join_l1_1_0_1_0g, ref06_Join_l1_1_0_1_0r, lt8 hi, in8 hi, cond_true, Int.toNat_natCast, put_get ha hb hi, hx, hy, Option.bind_some, w_succ hi, hself, set_set, and_true]
      by_cases h : x < y
      · have e : maxI x y = y := by unfold maxI; rw [if_pos (show y > x from h)]
        rw [e] at hs
        simp [ltI, h, hs]
      · have e : maxI x y = x := by unfold maxI; rw [if_neg (show ¬ y > x from h)]
        rw [e] at hs
        simp [ltI, h, hs]

theorem ref_meet {a b : List Int} (ha : a.length = 8) (hb : b.length = 8) : ref06_Meet a b = some (List.zipWith minI a b) := by
  unfold ref06_Meet
  rw [show loopC ref06_Meet_l1_1_0_1_0g (0, a, b, List.replicate 8 0, List.replicate 8 0) = some (List.replicate 8 0, put minI a b 8) from ?_]
  · rw [put_all ha hb]; rfl
  · have := loop_run ref06_Meet_l1_1_0_1_0g (fun i => ((i : Int), a, b, List.replicate 8 0, put minI a b i)) (fun i => (List.replicate 8 0, put minI a b 8)) 8 ?_ ?_
    · simpa only [put_zero, Int.natCast_zero] using this
    · simp only [ref06_Meet_l1_1_0_1_0g, ref06_Meet_l1_1_0_1_0r, lt88, cond_false]
    · intro i hi
      left
      obtain ⟨x, hx, dx⟩ := get8 ha hi
      obtain ⟨y, hy, dy⟩ := get8 hb hi
      have hs := put_set (f := minI) ha hb hi hx hy
      have hlt : i < (put minI a b i).length := (List.getElem?_eq_some_iff.1 (put_get (f := minI) ha hb hi)).1
      have hself : ((put minI a b i).set i x)[i]? = some x := List.getElem?_set_self hlt
      simp only [ref06_Meet_l1_1_0_1_0g, ref06_Meet_l1_1_0_1_0r, lt8 hi, in8 hi, cond_true, Int.toNat_natCast, put_get ha hb hi, hx, hy, Option.bind_some, w_succ hi, hself, set_set, and_true]
      by_cases h : y < x
      · have e : minI x y = y := by unfold minI; rw [if_pos h]
        rw [e] at hs
        simp [ltI, h, hs]
      · have e : minI x y = x := by unfold minI; rw [if_neg h]
        rw [e] at hs
        simp [ltI, h, hs]

theorem orders_true {a b : List Int} (ha : a.length = 8) (hb : b.length = 8) : law06_VecOrders a b = some true := by
  unfold law06_VecOrders law06_lives
  simp [order_is ha hb, ref_order ha hb, leq_is ha hb, ref_leq ha hb, join_is ha hb, ref_join ha hb, meet_is ha hb, ref_meet ha hb, eq_c0, eqI]

/-! ### bounds -/
theorem join_up1 : ∀ {a b : List Int}, leqL a (List.zipWith maxI a b) = true
  | [], _ => by simp [leqL]
  | _ :: _, [] => by simp [leqL]
  | x :: xs, y :: ys => by
    simp only [List.zipWith_cons_cons, leqL, join_up1 (a := xs), Bool.and_true, leI, decide_eq_true_eq, maxI]
    split <;> omega
theorem join_up2 : ∀ {a b : List Int}, leqL b (List.zipWith maxI a b) = true
  | [], b => by cases b <;> simp [leqL]
  | _ :: _, [] => by simp [leqL]
  | x :: xs, y :: ys => by
    simp only [List.zipWith_cons_cons, leqL, join_up2 (a := xs), Bool.and_true, leI, decide_eq_true_eq, maxI]
    split <;> omega
theorem meet_dn1 : ∀ {a b : List Int}, leqL (List.zipWith minI a b) a = true
  | [], _ => by simp [leqL]
  | _ :: _, [] => by simp [leqL]
  | x :: xs, y :: ys => by
    simp only [List.zipWith_cons_cons, leqL, meet_dn1 (a := xs), Bool.and_true, leI, decide_eq_true_eq, minI]
    split <;> omega
theorem meet_dn2 : ∀ {a b : List Int}, leqL (List.zipWith minI a b) b = true
  | [], b => by simp [leqL]
  | _ :: _, [] => by simp [leqL]
  | x :: xs, y :: ys => by
    simp only [List.zipWith_cons_cons, leqL, meet_dn2 (a := xs), Bool.and_true, leI, decide_eq_true_eq, minI]
    split <;> omega
theorem join_least : ∀ {a b c : List Int}, a.length = b.length → leqL (List.zipWith maxI a b) c = (leqL a c && leqL b c)
  | [], [], _, _ => by simp [leqL]
  | [], _ :: _, _, h => by simp at h
  | _ :: _, [], _, h => by simp at h
  | _ :: _, _ :: _, [], _ => by simp [leqL]
  | x :: xs, y :: ys, z :: zs, h => by
    simp only [List.zipWith_cons_cons, leqL, join_least (a := xs) (b := ys) (c := zs) (by simpa using h)]
    have : leI (maxI x y) z = (leI x z && leI y z) := by
      unfold maxI leI
      split <;> rw [Bool.eq_iff_iff] <;> simp <;> omega
    rw [this]
    cases leI x z <;> cases leI y z <;> simp
theorem meet_most : ∀ {a b c : List Int}, a.length = b.length → leqL c (List.zipWith minI a b) = (leqL c a && leqL c b)
  | [], [], c, _ => by cases c <;> simp [leqL]
  | [], _ :: _, _, h => by simp at h
  | _ :: _, [], _, h => by simp at h
  | _ :: _, _ :: _, [], _ => by simp [leqL]
  | x :: xs, y :: ys, z :: zs, h => by
    simp only [List.zipWith_cons_cons, leqL, meet_most (a := xs) (b := ys) (c := zs) (by simpa using h)]
    have : leI z (minI x y) = (leI z x && leI z y) := by
      unfold minI leI
      split <;> rw [Bool.eq_iff_iff] <;> simp <;> omega
    rw [this]
    cases leI z x <;> cases leI z y <;> simp

theorem zip8 {f : Int → Int → Int} {a b : List Int} (ha : a.length = 8) (hb : b.length = 8) : (List.zipWith f a b).length = 8 := by simp [ha, hb]

theorem bounds_true {a b c : List Int} (ha : a.length = 8) (hb : b.length = 8) (hc : c.length = 8) : law06_VecBounds a b c = some true := by
  unfold law06_VecBounds law06_lives
  simp only [join_is ha hb, meet_is ha hb, Option.bind_some, leq_is ha (zip8 ha hb), leq_is hb (zip8 ha hb), leq_is (zip8 ha hb) ha, leq_is (zip8 ha hb) hb, leq_is (zip8 ha hb) hc, leq_is hc (zip8 ha hb),
    leq_is ha hc, leq_is hb hc, leq_is hc ha, leq_is hc hb, join_up1, join_up2, meet_dn1, meet_dn2, join_least (ha.trans hb.symm), meet_most (ha.trans hb.symm)]
  cases leqL a c <;> cases leqL b c <;> cases leqL c a <;> cases leqL c b <;> rfl

/-! ### the line -/
theorem line_true {a b c : List Int} (ha : a.length = 8) (hb : b.length = 8) (hc : c.length = 8) : law06_VecLine a b c = some true := by
  unfold law06_VecLine law06_lives
  have ht : leqL a b = true → leqL b c = true → leqL a c = true := leqL_trans (ha.trans hb.symm)
  have he : decide (a = b) = (leqL a b && leqL b a) := by
    rw [Bool.eq_iff_iff]
    simp only [decide_eq_true_eq, Bool.and_eq_true]
    exact ⟨fun h => h ▸ ⟨leqL_refl _, leqL_refl _⟩, fun h => leqL_anti (by omega) h.1 h.2⟩
  simp only [order_is ha hb, order_is hb ha, Option.bind_some, eq_c0, he, ordR, ltL_leq]
  have m1 : W64 (-1) = -1 := by decide
  have m2 : W64 1 = 1 := by decide
  have m3 : W64 0 = 0 := by decide
  cases h1 : leqL a b <;> cases h2 : leqL b a <;> simp [neI, eqI, leq_is ha hb, leq_is hb hc, leq_is ha hc, h1, h2, m1, m2, m3]
  all_goals cases h3 : leqL b c
  all_goals simp_all

end Go.Proofs.YtfjikgkcleefiaaDoor
