/- Vectors: what the functions come to: components, events, totals. -/
import Derived.Test.YtfjikgkcleefiaaDoorVecB
set_option linter.unusedSimpArgs false
namespace Go.Proofs.YtfjikgkcleefiaaDoor
open Go.Tm Go.Ab

/-- a component -/
def getB (v : List Int) (rep : Int) : Int := if 1 ≤ rep ∧ rep ≤ 8 then v.getD (rep - 1).toNat 0 else 0
def hasB (v : List Int) (id : Int × Int) : Bool := leI 1 id.2 && leI id.2 (getB v id.1)

theorem w_rep {rep : Int} (h : 1 ≤ rep ∧ rep ≤ 8) : W64 (rep - 1) = rep - 1 := W64_in (by omega)

theorem rep_get {v : List Int} (hv : v.length = 8) {rep : Int} (h : 1 ≤ rep ∧ rep ≤ 8) : v[(rep - 1).toNat]? = some (getB v rep) := by
  unfold getB
  rw [if_pos h, List.getD_eq_getElem?_getD, List.getElem?_eq_getElem (by omega)]; rfl

theorem get_is {v : List Int} (hv : v.length = 8) (rep : Int) : vec_Get v rep = some (getB v rep) := by
  unfold vec_Get
  by_cases h : 1 ≤ rep ∧ rep ≤ 8
  · rw [ltI_f (by omega), ltI_f (by omega), w_rep h, inI_t (by omega), rep_get hv h]; rfl
  · have : getB v rep = 0 := by unfold getB; rw [if_neg h]
    rw [this]
    by_cases h1 : rep < 1
    · rw [ltI_t h1]; rfl
    · rw [ltI_f h1, ltI_t (by omega)]; rfl

theorem has_is {v : List Int} (hv : v.length = 8) (id : Int × Int) : vec_Has v id = some (hasB v id) := by
  unfold vec_Has hasB
  rw [get_is hv]
  cases leI 1 id.2 <;> rfl

theorem getB_zip {f : Int → Int → Int} {a b : List Int} (ha : a.length = 8) (hb : b.length = 8) (rep : Int) : getB (List.zipWith f a b) rep = if 1 ≤ rep ∧ rep ≤ 8 then f (getB a rep) (getB b rep) else 0 := by
  by_cases h : 1 ≤ rep ∧ rep ≤ 8
  · rw [if_pos h]
    have h1 := rep_get (zip8 (f := f) ha hb) h
    rw [List.getElem?_zipWith, rep_get ha h, rep_get hb h] at h1
    exact (Option.some.inj h1).symm
  · rw [if_neg h]; unfold getB; rw [if_neg h]

theorem has_join {a b : List Int} (ha : a.length = 8) (hb : b.length = 8) (id : Int × Int) : hasB (List.zipWith maxI a b) id = (hasB a id || hasB b id) := by
  unfold hasB
  rw [getB_zip ha hb]
  by_cases h : 1 ≤ id.1 ∧ id.1 ≤ 8
  · rw [if_pos h, Bool.eq_iff_iff]
    simp only [leI, maxI, Bool.and_eq_true, Bool.or_eq_true, decide_eq_true_eq]
    split <;> simp only [decide_eq_true_eq] <;> constructor <;> intro h' <;> omega
  · rw [if_neg h]; unfold getB; rw [if_neg h, if_neg h]; simp

theorem has_meet {a b : List Int} (ha : a.length = 8) (hb : b.length = 8) (id : Int × Int) : hasB (List.zipWith minI a b) id = (hasB a id && hasB b id) := by
  unfold hasB
  rw [getB_zip ha hb]
  by_cases h : 1 ≤ id.1 ∧ id.1 ≤ 8
  · rw [if_pos h, Bool.eq_iff_iff]
    simp only [leI, minI, Bool.and_eq_true, decide_eq_true_eq]
    split <;> simp only [decide_eq_true_eq] <;> constructor <;> intro h' <;> omega
  · rw [if_neg h]; unfold getB; rw [if_neg h, if_neg h]
    rw [Bool.eq_iff_iff]; simp

theorem leqL_get : ∀ {a b : List Int} {i : Nat} {x y : Int}, leqL a b = true → a[i]? = some x → b[i]? = some y → x ≤ y
  | [], _, i, _, _, _, h, _ => by simp at h
  | _ :: _, [], i, _, _, _, _, h => by simp at h
  | x :: xs, y :: ys, 0, x', y', h, hx, hy => by
    simp only [leqL, Bool.and_eq_true, leI, decide_eq_true_eq] at h
    simp at hx hy; omega
  | x :: xs, y :: ys, i + 1, x', y', h, hx, hy => by
    simp only [leqL, Bool.and_eq_true] at h
    exact leqL_get h.2 (by simpa using hx) (by simpa using hy)

theorem has_leq {a b : List Int} (ha : a.length = 8) (hb : b.length = 8) (id : Int × Int) (h : leqL a b = true) (h1 : hasB a id = true) : hasB b id = true := by
  unfold hasB at *
  simp only [Bool.and_eq_true, leI, decide_eq_true_eq] at *
  by_cases hr : 1 ≤ id.1 ∧ id.1 ≤ 8
  · have := leqL_get h (rep_get ha hr) (rep_get hb hr)
    omega
  · unfold getB at h1; rw [if_neg hr] at h1; omega

theorem means_true {a b : List Int} (ha : a.length = 8) (hb : b.length = 8) (id : Int × Int) : law06_VecMeans a b id = some true := by
  unfold law06_VecMeans law06_lives
  have hl := has_leq ha hb id
  simp only [has_is ha, has_is hb, join_is ha hb, meet_is ha hb, has_is (zip8 ha hb), has_join ha hb, has_meet ha hb, leq_is ha hb, Option.bind_some]
  cases h1 : hasB a id <;> cases h2 : hasB b id <;> cases h3 : leqL a b <;> simp_all

/-! ### events -/
def nextB (v : List Int) (rep : Int) : List Int × Int :=
  if 1 ≤ rep ∧ rep ≤ 8 then if 1048576 ≤ getB v rep then (List.replicate 8 0, 12) else (v.set (rep - 1).toNat (getB v rep + 1), 0) else (List.replicate 8 0, 1)

def vec8 (v : List Int) : Prop := v.length = 8 ∧ ∀ x, x ∈ v → 0 ≤ x ∧ x ≤ 4294967295

theorem getB_range {v : List Int} (hv : vec8 v) (rep : Int) : 0 ≤ getB v rep ∧ getB v rep ≤ 4294967295 := by
  by_cases h : 1 ≤ rep ∧ rep ≤ 8
  · exact hv.2 _ (List.mem_of_getElem? (rep_get hv.1 h))
  · unfold getB; rw [if_neg h]; omega

theorem next_is {v : List Int} (hv : vec8 v) (rep : Int) : vec_Next v rep = some (nextB v rep) := by
  unfold vec_Next nextB
  by_cases h : 1 ≤ rep ∧ rep ≤ 8
  · have hr := getB_range hv rep
    rw [if_pos h, ltI_f (by omega), ltI_f (by omega)]
    simp only [cond_false, Option.bind_some, w_rep h, inI_t (show 0 ≤ rep - 1 ∧ rep - 1 < (8 : Nat) by omega), cond_true, rep_get hv.1 h]
    by_cases h2 : 1048576 ≤ getB v rep
    · rw [if_pos h2, leI_t h2]; rfl
    · rw [if_neg h2, leI_f h2, WU32_in (by omega)]; rfl
  · rw [if_neg h]
    by_cases h1 : rep < 1
    · rw [ltI_t h1]; rfl
    · rw [ltI_f h1, ltI_t (by omega)]; rfl

theorem ref_next {v : List Int} (hv : vec8 v) (rep : Int) : ref06_Next v rep = some (nextB v rep) := next_is hv rep

theorem ref_get {v : List Int} (hv : v.length = 8) (rep : Int) : ref06_Get v rep = some (getB v rep) := by
  unfold ref06_Get
  rw [show loopC ref06_Get_l1_0_1_0g (rep, 0, v) = some (if 1 ≤ rep ∧ rep ≤ 8 then Sum.inr (getB v rep) else Sum.inl ()) from ?_]
  · by_cases h : 1 ≤ rep ∧ rep ≤ 8
    · rw [if_pos h]; rfl
    · rw [if_neg h]; unfold getB; rw [if_neg h]; rfl
  · refine loop_ind ref06_Get_l1_0_1_0g 8 (fun i s x => s = (rep, (i : Int), v) ∧ (rep < 1 ∨ (i : Int) < rep) ∧ x = if 1 ≤ rep ∧ rep ≤ 8 then Sum.inr (getB v rep) else Sum.inl ()) ?_ ⟨rfl, by omega, rfl⟩
    rintro i s x hi ⟨rfl, hlt, rfl⟩
    rcases Nat.lt_or_ge i 8 with hi | h8
    · by_cases he : (i : Int) + 1 = rep
      · left
        have h : 1 ≤ rep ∧ rep ≤ 8 := by omega
        have hg := rep_get hv h
        rw [show (rep - 1).toNat = i by omega] at hg
        simp only [ref06_Get_l1_0_1_0g, ref06_Get_l1_0_1_0r, lt8 hi, in8 hi, cond_true, Int.toNat_natCast, w_succ hi, eqI_t (show ((i + 1 : Nat) : Int) = rep by omega), hg, Option.bind_some, if_pos h]
      · right
        refine ⟨hi, _, ?_, rfl, by omega, rfl⟩
        simp only [ref06_Get_l1_0_1_0g, ref06_Get_l1_0_1_0r, lt8 hi, cond_true, w_succ hi, eqI_f (show ¬ ((i + 1 : Nat) : Int) = rep by omega), cond_false]
    · left
      have : i = 8 := by omega
      subst this
      simp only [ref06_Get_l1_0_1_0g, ref06_Get_l1_0_1_0r, lt88, cond_false]
      rw [if_neg (by omega)]

theorem ref_has {v : List Int} (hv : v.length = 8) (id : Int × Int) : ref06_Has v id = some (hasB v id) := by
  unfold ref06_Has hasB
  rw [ref_get hv]
  have : ltI 0 id.2 = leI 1 id.2 := by unfold ltI leI; rw [Bool.eq_iff_iff]; simp; omega
  rw [this]
  cases leI 1 id.2 <;> rfl

def withB (v : List Int) (id : Int × Int) : List Int := if 1 ≤ id.1 ∧ id.1 ≤ 8 then v.set (id.1 - 1).toNat (maxI (getB v id.1) id.2) else v

theorem with_is {v : List Int} (hv : v.length = 8) (id : Int × Int) : vec_With v id = some (withB v id) := by
  unfold vec_With withB
  by_cases h : 1 ≤ id.1 ∧ id.1 ≤ 8
  · rw [if_pos h, leI_t h.1, leI_t h.2]
    simp only [cond_true, Option.bind_some, w_rep h, inI_t (show 0 ≤ id.1 - 1 ∧ id.1 - 1 < (8 : Nat) by omega), rep_get hv h]
  · rw [if_neg h]
    by_cases h1 : 1 ≤ id.1
    · rw [leI_t h1, leI_f (by omega)]; rfl
    · rw [leI_f h1]; rfl

def oneB (id : Int × Int) : List Int := if 1 ≤ id.1 ∧ id.1 ≤ 8 then (List.replicate 8 0).set (id.1 - 1).toNat id.2 else List.replicate 8 0

theorem ref_one (id : Int × Int) : ref06_One id = some (oneB id) := by
  unfold ref06_One
  rw [show loopC ref06_One_l1_1_0_1_0g (0, id, List.replicate 8 0, List.replicate 8 0) = some (List.replicate 8 0, oneB id) from ?_]
  · rfl
  · refine loop_ind ref06_One_l1_1_0_1_0g 8 (fun i s x => s = ((i : Int), id, List.replicate 8 0, if 1 ≤ id.1 ∧ id.1 ≤ (i : Int) then (List.replicate 8 0).set (id.1 - 1).toNat id.2 else List.replicate 8 0) ∧ x = (List.replicate 8 0, oneB id)) ?_ ⟨by rw [if_neg (by omega)]; rfl, rfl⟩
    rintro i s x hi ⟨rfl, rfl⟩
    rcases Nat.lt_or_ge i 8 with hi | h8
    · right
      by_cases he : (i : Int) + 1 = id.1
      · have hlen : ((List.replicate 8 0 : List Int))[i]? = some 0 := by rw [List.getElem?_replicate, if_pos hi]
        refine ⟨hi, _, ?_, rfl, rfl⟩
        rw [if_neg (by omega), if_pos (by omega)]
        simp only [ref06_One_l1_1_0_1_0g, ref06_One_l1_1_0_1_0r, lt8 hi, in8 hi, cond_true, Int.toNat_natCast, w_succ hi, eqI_t (show ((i + 1 : Nat) : Int) = id.1 by omega), hlen, Option.bind_some,
          show (id.1 - 1).toNat = i by omega]
      · refine ⟨hi, _, ?_, rfl, rfl⟩
        simp only [ref06_One_l1_1_0_1_0g, ref06_One_l1_1_0_1_0r, lt8 hi, cond_true, w_succ hi, eqI_f (show ¬ ((i + 1 : Nat) : Int) = id.1 by omega), cond_false]
        by_cases h : 1 ≤ id.1 ∧ id.1 ≤ (i : Int)
        · rw [if_pos h, if_pos (by omega)]
        · rw [if_neg h, if_neg (by omega)]
    · left
      have : i = 8 := by omega
      subst this
      simp only [ref06_One_l1_1_0_1_0g, ref06_One_l1_1_0_1_0r, lt88, cond_false]
      rfl

theorem zip_zero : ∀ {v : List Int}, (∀ x, x ∈ v → 0 ≤ x) → List.zipWith maxI v (List.replicate v.length 0) = v
  | [], _ => rfl
  | x :: v, h => by
    have hx := h x (by simp)
    simp only [List.length_cons, List.replicate_succ, List.zipWith_cons_cons, zip_zero (v := v) fun y hy => h y (by simp [hy])]
    rw [show maxI x 0 = x by unfold maxI; rw [if_neg (by omega)]]

theorem zip_set {f : Int → Int → Int} : ∀ {v w : List Int} {i : Nat} {x c : Int}, v[i]? = some x → i < w.length → List.zipWith f v (w.set i c) = (List.zipWith f v w).set i (f x c)
  | [], _, _, _, _, h, _ => by simp at h
  | _ :: _, [], _, _, _, _, h => by simp at h
  | x :: v, y :: w, 0, _, _, h, _ => by simp at h; subst h; rfl
  | x :: v, y :: w, i + 1, _, _, h, hl => by
    simp only [List.set_cons_succ, List.zipWith_cons_cons, zip_set (v := v) (w := w) (i := i) (by simpa using h) (by simpa using hl)]

theorem one_len (id : Int × Int) : (oneB id).length = 8 := by unfold oneB; split <;> simp

theorem ref_with {v : List Int} (hv : vec8 v) (id : Int × Int) : ref06_With v id = some (withB v id) := by
  unfold ref06_With
  rw [ref_one]
  simp only [Option.bind_some]
  rw [ref_join hv.1 (one_len id)]
  simp only [Option.bind_some]
  have hz := zip_zero (v := v) fun x hx => (hv.2 x hx).1
  rw [hv.1] at hz
  unfold oneB withB
  by_cases h : 1 ≤ id.1 ∧ id.1 ≤ 8
  · rw [if_pos h, if_pos h, zip_set (rep_get hv.1 h) (by simp; omega), hz]
  · rw [if_neg h, if_neg h, hz]

theorem less_is (a b : Int × Int) : vec_Less a b = ref06_Less a b := by
  unfold vec_Less ref06_Less
  rcases Int.lt_trichotomy a.2 b.2 with h | h | h
  · rw [neI_t (by omega), ltI_t h]; rfl
  · rw [neI_f h, ltI_f (by omega), eqI_t h]; rfl
  · rw [neI_t (by omega), ltI_f (by omega), eqI_f (by omega)]; rfl

theorem ref_less (a b : Int × Int) : ∃ r, ref06_Less a b = some r := by
  unfold ref06_Less
  cases ltI a.2 b.2 <;> cases eqI a.2 b.2 <;> exact ⟨_, rfl⟩

theorem events_true {v : List Int} (hv : vec8 v) (a b : Int × Int) : law06_VecEvents v a b = some true := by
  unfold law06_VecEvents law06_lives
  obtain ⟨r, hr⟩ := ref_less a b
  simp [next_is hv, ref_next hv, get_is hv.1, ref_get hv.1, has_is hv.1, ref_has hv.1, with_is hv.1, ref_with hv, less_is, hr, eq_c0, eqI]

/-! ### totals -/
theorem take_sum {v : List Int} {i : Nat} {x : Int} (h : v[i]? = some x) : (v.take (i + 1)).sum = (v.take i).sum + x := by
  rw [List.take_add_one, h]; simp

theorem sum_range : ∀ {v : List Int}, (∀ x, x ∈ v → 0 ≤ x ∧ x ≤ 4294967295) → 0 ≤ v.sum ∧ v.sum ≤ v.length * 4294967295
  | [], _ => by simp
  | x :: v, h => by
    have hx := h x (by simp)
    have := sum_range (v := v) fun y hy => h y (by simp [hy])
    simp only [List.sum_cons, List.length_cons]
    omega

theorem take_range {v : List Int} (hv : vec8 v) (i : Nat) : 0 ≤ (v.take i).sum ∧ (v.take i).sum ≤ 8 * 4294967295 := by
  have := sum_range (v := v.take i) fun x hx => hv.2 x (List.mem_of_mem_take hx)
  have hl : (v.take i).length ≤ 8 := by simp [hv.1]; omega
  omega

theorem total_is {v : List Int} (hv : vec8 v) : vec_Total v = some v.sum := by
  unfold vec_Total
  rw [show loopC vec_Total_l1_1_0_1_0g (0, v, 0) = some v.sum from ?_]
  · rfl
  · have := loop_run vec_Total_l1_1_0_1_0g (fun i => ((v.take i).sum, v, (i : Int))) (fun _ => v.sum) 8 ?_ ?_
    · simpa using this
    · simp only [vec_Total_l1_1_0_1_0g, vec_Total_l1_1_0_1_0r, lt88, cond_false]
      rw [List.take_of_length_le (by have := hv.1; omega)]
    · intro i hi
      left
      obtain ⟨x, hx, _⟩ := get8 hv.1 hi
      have hxr := hv.2 x (List.mem_of_getElem? hx)
      have hs := take_range hv i
      refine ⟨?_, rfl⟩
      simp only [vec_Total_l1_1_0_1_0g, vec_Total_l1_1_0_1_0r, lt8 hi, cond_true, idx8, hx, Option.bind_some, w_succ hi, take_sum hx]
      rw [WU64_in (n := x) (by omega), WU64_in (by omega)]

theorem set_sum : ∀ {v : List Int} {i : Nat} {x y : Int}, v[i]? = some x → (v.set i y).sum = v.sum - x + y
  | [], _, _, _, h => by simp at h
  | x :: v, 0, _, _, h => by simp at h; subst h; simp; omega
  | x :: v, i + 1, _, _, h => by
    simp only [List.set_cons_succ, List.sum_cons, set_sum (v := v) (i := i) (by simpa using h)]; omega

theorem leq_set : ∀ {v : List Int} {i : Nat} {x y : Int}, v[i]? = some x → leqL v (v.set i y) = leI x y ∧ leqL (v.set i y) v = leI y x
  | [], _, _, _, h => by simp at h
  | x :: v, 0, _, _, h => by simp at h; subst h; simp [leqL, leqL_refl]
  | x :: v, i + 1, _, y, h => by
    have := leq_set (v := v) (i := i) (x := _) (y := y) (by simpa using h)
    simp only [List.set_cons_succ, leqL, this]
    simp [leI]

theorem totals_true {v : List Int} (hv : vec8 v) (id : Int × Int) : law06_VecTotals v id = some true := by
  unfold law06_VecTotals law06_lives
  rw [next_is hv]
  simp only [Option.bind_some, Bool.not_true, cond_false]
  have hall : ∀ e n, loopC law06_VecTotals_l1_1_1_1_0_1_0g (e, 0, 0, v, id, n) = some (e, v.sum, v, id, n) := by
    intro e n
    have := loop_run law06_VecTotals_l1_1_1_1_0_1_0g (fun i => (e, (v.take i).sum, (i : Int), v, id, n)) (fun _ => (e, v.sum, v, id, n)) 8 ?_ ?_
    · simpa using this
    · simp only [law06_VecTotals_l1_1_1_1_0_1_0g, law06_VecTotals_l1_1_1_1_0_1_0r, lt88, cond_false]
      rw [List.take_of_length_le (by have := hv.1; omega)]
    · intro i hi
      left
      obtain ⟨x, hx, _⟩ := get8 hv.1 hi
      have hxr := hv.2 x (List.mem_of_getElem? hx)
      have hs := take_range hv i
      have hg : getB v ((i + 1 : Nat) : Int) = x := by
        have := rep_get hv.1 (rep := ((i + 1 : Nat) : Int)) (by omega)
        rw [show (((i + 1 : Nat) : Int) - 1).toNat = i by omega, hx] at this
        exact (Option.some.inj this).symm
      refine ⟨?_, rfl⟩
      simp only [law06_VecTotals_l1_1_1_1_0_1_0g, law06_VecTotals_l1_1_1_1_0_1_0r, lt8 hi, cond_true, w_succ hi, get_is hv.1, hg, Option.bind_some, take_sum hx]
      rw [WU64_in (n := x) (by omega), WU64_in (by omega)]
  rw [hall]
  simp only [Option.bind_some, total_is hv]
  rw [neI_f rfl]
  simp only [cond_false]
  unfold nextB
  by_cases h : 1 ≤ id.1 ∧ id.1 ≤ 8
  · rw [if_pos h]
    have hr := getB_range hv id.1
    by_cases h2 : 1048576 ≤ getB v id.1
    · rw [if_pos h2]
      simp only [get_is hv.1, Option.bind_some]
      rw [neI_t (by decide), ltI_f (by omega), ltI_f (by omega), leI_t h2, eq_c0]
      simp
    · rw [if_neg h2]
      simp only
      rw [neI_f rfl]
      simp only [cond_false]
      have hg := rep_get hv.1 h
      have hlt : (id.1 - 1).toNat < v.length := by have := hv.1; omega
      have hn : vec8 (v.set (id.1 - 1).toNat (getB v id.1 + 1)) := ⟨by simp [hv.1], fun x hx => by
        rcases List.mem_or_eq_of_mem_set hx with hx | rfl
        · exact hv.2 x hx
        · omega⟩
      have hgn : getB (v.set (id.1 - 1).toNat (getB v id.1 + 1)) id.1 = getB v id.1 + 1 := by
        have := rep_get hn.1 h
        rw [List.getElem?_set_self hlt] at this
        exact (Option.some.inj this).symm
      have hs := take_range hv 8
      rw [List.take_of_length_le (by have := hv.1; omega)] at hs
      simp only [get_is hn.1, total_is hn, Option.bind_some, hgn]
      rw [set_sum hg, WU64_in (by omega), eqI_t (by omega)]
      simp only [cond_true, has_is hv.1, has_is hn.1, Option.bind_some]
      have e1 : hasB v (id.1, getB v id.1 + 1) = false := by
        unfold hasB; simp only [leI_f (show ¬ getB v id.1 + 1 ≤ getB v id.1 by omega), Bool.and_false]
      have e2 : hasB (v.set (id.1 - 1).toNat (getB v id.1 + 1)) (id.1, getB v id.1 + 1) = true := by
        unfold hasB; simp only [hgn, leI_t (Int.le_refl _), leI_t (show (1 : Int) ≤ getB v id.1 + 1 by omega), Bool.and_true]
      obtain ⟨l1, l2⟩ := leq_set (y := getB v id.1 + 1) hg
      have e3 : ordR v (v.set (id.1 - 1).toNat (getB v id.1 + 1)) = -1 := by
        unfold ordR
        rw [ltL_leq, ltL_leq, l1, l2, leI_t (show getB v id.1 ≤ getB v id.1 + 1 by omega), leI_f (show ¬ getB v id.1 + 1 ≤ getB v id.1 by omega)]; rfl
      have e4 : withB v (id.1, getB v id.1 + 1) = v.set (id.1 - 1).toNat (getB v id.1 + 1) := by
        unfold withB
        simp only
        rw [if_pos h, show maxI (getB v id.1) (getB v id.1 + 1) = getB v id.1 + 1 by unfold maxI; rw [if_pos (by omega)]]
      simp only [e1, e2, Bool.not_false, cond_true, order_is hv.1 hn.1, e3, with_is hv.1, e4, Option.bind_some]
      rw [eqI_t rfl]
      have e5 : ∀ l : List Int, eqU c0 l l = true := fun l => by rw [eq_c0]; simp
      simp only [cond_true, e5]
      by_cases hid : id.2 = getB v id.1 + 1
      · have : eqU c1 id (id.1, getB v id.1 + 1) = true := (eqU_iff (u := c1) rfl).2 (by rw [← hid])
        rw [this]; rfl
      · have : eqU c1 id (id.1, getB v id.1 + 1) = false := by
          cases hc : eqU c1 id (id.1, getB v id.1 + 1) with
          | false => rfl
          | true => exact absurd (congrArg Prod.snd ((eqU_iff (u := c1) rfl).1 hc)) hid
        rw [this]
        have : hasB v id = hasB (v.set (id.1 - 1).toNat (getB v id.1 + 1)) id := by
          unfold hasB
          rw [hgn, Bool.eq_iff_iff]
          simp only [leI, Bool.and_eq_true, decide_eq_true_eq]
          omega
        rw [← this]; simp
  · rw [if_neg h]
    simp only
    rw [neI_t (by decide), eq_c0]
    simp only [cond_true, decide_true]
    by_cases h1 : id.1 < 1
    · rw [ltI_t h1]; rfl
    · rw [ltI_f h1, ltI_t (by omega)]; rfl

end Go.Proofs.YtfjikgkcleefiaaDoor
