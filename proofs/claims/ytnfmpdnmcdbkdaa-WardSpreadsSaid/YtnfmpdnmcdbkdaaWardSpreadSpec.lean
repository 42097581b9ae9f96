/- Layer 20 in plain Lean: what one knows spreads to all. -/
import Derived.Test.YtnfmpdnmcdbkdaaWardRingSpec
import Derived.Test.YtnfmpdnmcdbkdaaAb15
namespace Go.Ab

/-! ### one who is of a ward comes by every other one of it -/
def reachB (b : List Bool) (r s : Nat) : Bool :=
  bif b.getD (r - 1) false && b.getD (s - 1) false && !Nat.beq r s then
    (pathN b r 8).all (fun x => Nat.ble 1 x && Nat.ble x 8 && b.getD (x - 1) false) && (pathN b r 8).any (fun x => Nat.beq x s)
  else true

theorem reachB_all : ((bits 8).all fun b => [1, 2, 3, 4, 5, 6, 7, 8].all fun r => [1, 2, 3, 4, 5, 6, 7, 8].all fun s => reachB b r s) = true := by decide +kernel

theorem mem_eight {r : Nat} (h1 : 1 ≤ r) (h8 : r ≤ 8) : r ∈ [1, 2, 3, 4, 5, 6, 7, 8] := by
  have : r = 1 ∨ r = 2 ∨ r = 3 ∨ r = 4 ∨ r = 5 ∨ r = 6 ∨ r = 7 ∨ r = 8 := by omega
  rcases this with rfl | rfl | rfl | rfl | rfl | rfl | rfl | rfl <;> simp

/-- Backwards along a path: what its end knows its start knows. -/
theorem path_back {b : List Bool} {K : Nat → Prop} {s : Nat} (hs : K s) (hb : ∀ r, (1 ≤ r ∧ r ≤ 8 ∧ b.getD (r - 1) false = true) → (1 ≤ nx b r ∧ nx b r ≤ 8 ∧ b.getD (nx b r - 1) false = true) → K (nx b r) → K r) :
    ∀ (n r : Nat), (1 ≤ r ∧ r ≤ 8 ∧ b.getD (r - 1) false = true) → ((pathN b r n).all fun x => Nat.ble 1 x && Nat.ble x 8 && b.getD (x - 1) false) = true → s ∈ pathN b r n → K r
  | 0, r, _, _, h => by simp [pathN] at h
  | n + 1, r, hr, ha, h => by
    simp only [pathN, List.all_cons, Bool.and_eq_true, Nat.ble_eq] at ha
    obtain ⟨⟨⟨a1, a2⟩, a3⟩, ha⟩ := ha
    refine hb r hr ⟨a1, a2, a3⟩ ?_
    simp only [pathN, List.mem_cons] at h
    rcases h with h | h
    · rw [← h]; exact hs
    · exact path_back hs hb n _ ⟨a1, a2, a3⟩ ha h

/-! ### from a ward to the next one that has somebody -/
def nw (c : List Bool) (v : Nat) : Nat := (([1, 2, 3, 4].map fun i => (v + i) % 5).find? fun x => c.getD x false).getD 5

def pathW (c : List Bool) : Nat → Nat → List Nat
  | _, 0 => []
  | r, n + 1 => nw c r :: pathW c (nw c r) n

def reachW (c : List Bool) (r s : Nat) : Bool :=
  bif c.getD r false && c.getD s false && !Nat.beq r s then
    (pathW c r 5).all (fun x => Nat.blt x 5 && c.getD x false) && (pathW c r 5).any (fun x => Nat.beq x s)
  else true

theorem reachW_all : ((bits 5).all fun c => [0, 1, 2, 3, 4].all fun r => [0, 1, 2, 3, 4].all fun s => reachW c r s) = true := by decide +kernel

theorem pathW_back {c : List Bool} {K : Nat → Prop} {s : Nat} (hs : K s) (hb : ∀ r, (r < 5 ∧ c.getD r false = true) → (nw c r < 5 ∧ c.getD (nw c r) false = true) → K (nw c r) → K r) :
    ∀ (n r : Nat), (r < 5 ∧ c.getD r false = true) → ((pathW c r n).all fun x => Nat.blt x 5 && c.getD x false) = true → s ∈ pathW c r n → K r
  | 0, r, _, _, h => by simp [pathW] at h
  | n + 1, r, hr, ha, h => by
    simp only [pathW, List.all_cons, Bool.and_eq_true, Nat.blt_eq] at ha
    obtain ⟨⟨a1, a3⟩, ha⟩ := ha
    refine hb r hr ⟨a1, a3⟩ ?_
    simp only [pathW, List.mem_cons] at h
    rcases h with h | h
    · rw [← h]; exact hs
    · exact pathW_back hs hb n _ ⟨a1, a3⟩ ha h

/-- all that are here -/
def allF (R ro : Nat → Bool) (i : Nat) : Bool := ro i && !R i

theorem here_all {R ro : Nat → Bool} {i : Nat} (h : i < 8) : hereF R ro ((i : Int) + 1) = allF R ro i := here_at h

theorem setUp_all {A : Nat → Bool} {i : Nat} (h : A i = true) : setUp A ((i : Int) + 1) = A := by
  funext j
  unfold setUp
  rw [show ((i : Int) + 1 - 1).toNat = i by omega]
  by_cases e : j = i
  · rw [if_pos e, e, h]
  · rw [if_neg e]

theorem firstF_some {l : List Int} {up : Nat → Bool} (hl : ∀ m, m ∈ l → 1 ≤ m) {x : Int} (hx : x ∈ l) (hu : up (x - 1).toNat = true) : firstF l up ≠ 0 := by
  unfold firstF
  cases hf : l.find? fun m => up (m - 1).toNat with
  | none => exact absurd hu (by simpa using List.find?_eq_none.1 hf x hx)
  | some m => have := hl m (List.mem_of_find?_eq_some hf); simp; omega

structure Closed (W : Nat → Int) (R ro : Nat → Bool) (K : Nat → Prop) : Prop where
  even : ∀ i, i < 8 → allF R ro i = true → 1 ≤ whomF W R ro (allF R ro) ((i : Int) + 1) 0 → whomF W R ro (allF R ro) ((i : Int) + 1) 0 ≤ 8 → K (whomF W R ro (allF R ro) ((i : Int) + 1) 0 - 1).toNat → K i
  odd : ∀ i, i < 8 → allF R ro i = true → 1 ≤ whomF W R ro (allF R ro) ((i : Int) + 1) 1 → whomF W R ro (allF R ro) ((i : Int) + 1) 1 ≤ 8 → K (whomF W R ro (allF R ro) ((i : Int) + 1) 1 - 1).toNat → K i

theorem vB_all {W : Nat → Int} {R ro : Nat → Bool} {w : Int} {i : Nat} (h : i < 8) : (vB W R ro (allF R ro) w).getD i false = (allF R ro i && (W i == w)) := by
  rw [vB_get h]
  unfold vF allF
  cases ro i <;> cases R i <;> cases (W i == w) <;> rfl

theorem ward_closed {W : Nat → Int} {R ro : Nat → Bool} {K : Nat → Prop} (hK : Closed W R ro K) {i j : Nat} (hi : i < 8) (hj : j < 8) (ai : allF R ro i = true) (aj : allF R ro j = true) (hw : W i = W j) (hk : K j) : K i := by
  by_cases e : i = j
  · rw [e]; exact hk
  generalize hb : vB W R ro (allF R ro) (W i) = b
  have hbl : b.length = 8 := by subst hb; simp [vB]
  have bi : b.getD i false = true := by subst hb; rw [vB_all hi, ai]; simp
  have bj : b.getD j false = true := by subst hb; rw [vB_all hj, aj, hw]; simp
  have key : reachB b (i + 1) (j + 1) = true := by
    have := List.all_eq_true.1 reachB_all b (mem_bits hbl)
    have := List.all_eq_true.1 this (i + 1) (mem_eight (by omega) (by omega))
    exact List.all_eq_true.1 this (j + 1) (mem_eight (by omega) (by omega))
  unfold reachB at key
  have hne : Nat.beq (i + 1) (j + 1) = false := by
    rw [Bool.eq_false_iff]; intro h; have := Nat.eq_of_beq_eq_true h; omega
  simp only [Nat.add_sub_cancel, bi, bj, hne, Bool.not_false, Bool.and_self, cond_true, Bool.and_eq_true] at key
  obtain ⟨k1, k2⟩ := key
  obtain ⟨x, hx, hxe⟩ := List.any_eq_true.1 k2
  have hxe := Nat.eq_of_beq_eq_true hxe
  subst hxe
  have := path_back (b := b) (K := fun r => K (r - 1)) (s := j + 1) hk (fun r hr hn hkn => ?_) 8 (i + 1) ⟨by omega, by omega, bi⟩ k1 hx
  · exact this
  obtain ⟨r1, r8, rb⟩ := hr
  obtain ⟨m, rfl⟩ : ∃ m, r = m + 1 := ⟨r - 1, by omega⟩
  simp only [Nat.add_sub_cancel] at rb ⊢
  have hm : m < 8 := by omega
  have rb' := rb
  rw [← hb, vB_all hm] at rb'
  simp only [Bool.and_eq_true, beq_iff_eq] at rb'
  obtain ⟨am, wm'⟩ := rb'
  have hof : ofF W ((m : Int) + 1) = W m := of_at hm
  have hnx : nextF W R ro (allF R ro) ((m : Int) + 1) = (nx b (m + 1) : Nat) := by
    have := next_nx W R ro (allF R ro) (m + 1)
    rw [show ((m + 1 : Nat) : Int) = (m : Int) + 1 by omega, hof, wm', hb] at this
    exact this
  have hwh : whomF W R ro (allF R ro) ((m : Int) + 1) 0 = (nx b (m + 1) : Nat) := by
    unfold whomF
    rw [if_neg (by rw [here_all hm, am]; simp), hnx]
    split
    · rfl
    · rw [if_neg]
      rintro (h | h)
      · omega
      · exact absurd h.1 (by decide)
  refine hK.even m hm am ?_ ?_ ?_
  · rw [hwh]; omega
  · rw [hwh]; omega
  · rw [hwh, show (((nx b (m + 1) : Nat) : Int) - 1).toNat = nx b (m + 1) - 1 by omega]; exact hkn

def cW (W : Nat → Int) (R ro : Nat → Bool) : List Bool := (List.range 5).map fun v : Nat => decide (masterF W R ro (allF R ro) (v : Int) ≠ 0)

theorem cW_get {W : Nat → Int} {R ro : Nat → Bool} {v : Nat} (h : v < 5) : (cW W R ro).getD v false = decide (masterF W R ro (allF R ro) (v : Int) ≠ 0) := by
  simp [cW, List.getD, h]

theorem beyond_nw {W : Nat → Int} {R ro : Nat → Bool} {v : Nat} (hv : v < 5) : nw (cW W R ro) v < 5 → beyondF W R ro (allF R ro) (v : Int) = masterF W R ro (allF R ro) ((nw (cW W R ro) v : Nat) : Int) := by
  have e : ∀ i : Nat, ((v : Int) + (i : Int)).tmod 5 = ((((v + i) % 5 : Nat)) : Int) := fun i => by
    rw [Int.tmod_eq_emod_of_nonneg (by omega)]; omega
  have g : ∀ i : Nat, (cW W R ro).getD ((v + i) % 5) false = decide (masterF W R ro (allF R ro) (((v + i) % 5 : Nat) : Int) ≠ 0) := fun i => cW_get (Nat.mod_lt _ (by omega))
  unfold beyondF nw
  simp only [beyL, List.map_cons, List.map_nil, List.find?_cons, List.find?_nil, g]
  have e1 := e 1; have e2 := e 2; have e3 := e 3; have e4 := e 4
  simp only [Int.reduceAdd]
  rw [show ((v : Int) + 1).tmod 5 = _ from e1, show ((v : Int) + 2).tmod 5 = _ from e2, show ((v : Int) + 3).tmod 5 = _ from e3, show ((v : Int) + 4).tmod 5 = _ from e4]
  generalize (v + 1) % 5 = a1
  generalize (v + 2) % 5 = a2
  generalize (v + 3) % 5 = a3
  generalize (v + 4) % 5 = a4
  by_cases h1 : masterF W R ro (allF R ro) (a1 : Int) = 0
  · by_cases h2 : masterF W R ro (allF R ro) (a2 : Int) = 0
    · by_cases h3 : masterF W R ro (allF R ro) (a3 : Int) = 0
      · by_cases h4 : masterF W R ro (allF R ro) (a4 : Int) = 0
        · simp [h1, h2, h3, h4]
        · simp [h1, h2, h3, h4]
      · simp [h1, h2, h3]
    · simp [h1, h2]
  · simp [h1]

theorem closed_all {W : Nat → Int} {R ro : Nat → Bool} {K : Nat → Prop} (hW : ∀ i, i < 8 → 0 ≤ W i ∧ W i ≤ 4) (hK : Closed W R ro K) {i j : Nat} (hi : i < 8) (hj : j < 8) (ai : allF R ro i = true) (aj : allF R ro j = true) (hk : K j) : K i := by
  have mem : ∀ q, q < 8 → allF R ro q = true → ((q : Int) + 1) ∈ membersF W R ro (W q) := fun q hq aq =>
    mem_memTo.2 ⟨⟨by omega, by omega⟩, by rw [here_all hq]; exact aq, of_at hq⟩
  have mas : ∀ q, q < 8 → allF R ro q = true → masterF W R ro (allF R ro) (W q) ≠ 0 := fun q hq aq =>
    firstF_some (fun m hm => (members_lo hm).1) (mem q hq aq) (by rw [show ((q : Int) + 1 - 1).toNat = q by omega]; exact aq)
  have masIs : ∀ w, masterF W R ro (allF R ro) w ≠ 0 → ∃ m : Nat, m < 8 ∧ masterF W R ro (allF R ro) w = (m : Int) + 1 ∧ allF R ro m = true ∧ W m = w := fun w h => by
    obtain ⟨h1, h2⟩ := firstF_mem h
    have h3 := (mem_memTo.1 h1)
    have hb := members_lo h1
    refine ⟨(masterF W R ro (allF R ro) w - 1).toNat, ?_, ?_, h2, ?_⟩
    · unfold masterF; omega
    · unfold masterF; omega
    · have h4 := h3.2.2
      unfold ofF at h4
      rw [if_neg (by omega)] at h4
      exact h4
  obtain ⟨wi, hwi⟩ : ∃ wi : Nat, W i = (wi : Int) := ⟨(W i).toNat, by have := hW i hi; omega⟩
  obtain ⟨wj, hwj⟩ : ∃ wj : Nat, W j = (wj : Int) := ⟨(W j).toNat, by have := hW j hj; omega⟩
  by_cases e : wi = wj
  · exact ward_closed hK hi hj ai aj (by rw [hwi, hwj, e]) hk
  have li : wi < 5 := by have := hW i hi; omega
  have lj : wj < 5 := by have := hW j hj; omega
  have ci : (cW W R ro).getD wi false = true := by rw [cW_get li]; exact decide_eq_true (by rw [← hwi]; exact mas i hi ai)
  have cj : (cW W R ro).getD wj false = true := by rw [cW_get lj]; exact decide_eq_true (by rw [← hwj]; exact mas j hj aj)
  have five : ∀ x, x < 5 → x ∈ [0, 1, 2, 3, 4] := fun x hx => by
    have : x = 0 ∨ x = 1 ∨ x = 2 ∨ x = 3 ∨ x = 4 := by omega
    rcases this with rfl | rfl | rfl | rfl | rfl <;> simp
  have key : reachW (cW W R ro) wi wj = true := by
    have := List.all_eq_true.1 reachW_all (cW W R ro) (mem_bits (by simp [cW]))
    have := List.all_eq_true.1 this wi (five _ li)
    exact List.all_eq_true.1 this wj (five _ lj)
  unfold reachW at key
  have hne : Nat.beq wi wj = false := by
    rw [Bool.eq_false_iff]; intro h; exact e (Nat.eq_of_beq_eq_true h)
  simp only [ci, cj, hne, Bool.not_false, Bool.and_self, cond_true, Bool.and_eq_true] at key
  obtain ⟨k1, k2⟩ := key
  obtain ⟨x, hx, hxe⟩ := List.any_eq_true.1 k2
  have hxe := Nat.eq_of_beq_eq_true hxe
  subst hxe
  have step := pathW_back (c := cW W R ro) (K := fun w => ∀ q, q < 8 → allF R ro q = true → W q = (w : Nat) → K q) (s := x)
    (fun q hq aq hwq => ward_closed hK hq hj aq aj (by rw [hwq, hwj]) hk) (fun r hr hn hkn => ?_) 5 wi ⟨li, ci⟩ k1 hx
  · exact step i hi ai hwi
  intro q hq aq hwq
  obtain ⟨r5, rc⟩ := hr
  obtain ⟨n5, nc⟩ := hn
  rw [cW_get r5] at rc
  rw [cW_get n5] at nc
  obtain ⟨m, m8, me, am, wm'⟩ := masIs _ (of_decide_eq_true rc)
  obtain ⟨m2, m28, me2, am2, wm2⟩ := masIs _ (of_decide_eq_true nc)
  refine ward_closed hK hq m8 aq am (by rw [hwq, wm']) ?_
  have hof : ofF W ((m : Int) + 1) = (r : Nat) := by rw [of_at m8, wm']
  have hwh : whomF W R ro (allF R ro) ((m : Int) + 1) 1 = (m2 : Int) + 1 := by
    unfold whomF
    rw [if_neg (by rw [here_all m8, am]; simp), setUp_all am, hof, me, if_neg (by simp), beyond_nw r5 n5, me2, if_pos (.inr ⟨by decide, by omega⟩)]
  refine hK.odd m m8 am ?_ ?_ ?_
  · rw [hwh]; omega
  · rw [hwh]; omega
  · rw [hwh, show ((m2 : Int) + 1 - 1).toNat = m2 by omega]; exact hkn m2 m28 am2 wm2

/-! ### the rounds -/
def kC (K : Nat → Bool) : List PV := (List.range 8).map fun j => vb (K j)
def updK (K : Nat → Bool) (i : Nat) : Nat → Bool := fun j => if j = i then true else K j
def cardK (K : Nat → Bool) : Nat := ((List.range 8).filter K).length

theorem kC_get {K : Nat → Bool} {j : Nat} (h : j < 8) : (kC K)[j]? = some (vb (K j)) := by simp [kC, h]
theorem kC_len (K : Nat → Bool) : (kC K).length = 8 := by simp [kC]
theorem kC_pure (K : Nat → Bool) : Pures (kC K) := Pures_iff.2 fun p hp => by
  simp only [kC, List.mem_map] at hp; obtain ⟨_, _, rfl⟩ := hp; trivial
theorem kC_is (K : Nat → Bool) : IsB (kC K) K := ⟨kC_len K, fun _ h => kC_get h, kC_pure K⟩

theorem kC_set {K : Nat → Bool} {i : Nat} {v : Bool} (hi : i < 8) : splice (kC K) (0 + i) [vb v] = kC (fun j => if j = i then v else K j) := by
  rw [Nat.zero_add]
  refine List.ext_getElem? fun j => ?_
  by_cases hj : j < 8
  · rw [kC_get hj, splice_get _ _ _ _ (by rw [kC_len]; simp; omega)]
    simp only [List.length_cons, List.length_nil]
    by_cases hjk : j = i
    · subst hjk; simp
    · rw [if_neg (by omega), if_neg hjk, kC_get hj]
  · rw [List.getElem?_eq_none (by rw [splice_length _ _ _ (by rw [kC_len]; simp; omega), kC_len]; omega), List.getElem?_eq_none (by rw [kC_len]; omega)]

def allTo (R ro : Nat → Bool) (i j : Nat) : Bool := decide (j < i) && allF R ro j
def cntTo (R ro : Nat → Bool) (i : Nat) : Nat := ((List.range i).filter (allF R ro)).length

theorem cntTo_succ (R ro : Nat → Bool) (i : Nat) : cntTo R ro (i + 1) = cntTo R ro i + (if allF R ro i = true then 1 else 0) := by
  unfold cntTo
  rw [List.range_succ, List.filter_append, List.length_append]
  congr 1
  simp only [List.filter_cons, List.filter_nil]
  split <;> rfl

theorem cntTo_le (R ro : Nat → Bool) (i : Nat) : cntTo R ro i ≤ i := by
  have := List.length_filter_le (allF R ro) (List.range i)
  simpa [cntTo] using this

theorem allTo_succ {R ro : Nat → Bool} {i : Nat} {v : Bool} (hi : i < 8) (hv : v = allF R ro i) : splice (kC (allTo R ro i)) (0 + i) [vb v] = kC (allTo R ro (i + 1)) := by
  rw [kC_set hi]
  congr 1
  funext j
  unfold allTo
  by_cases h : j = i
  · subst h; rw [if_pos rfl, hv, decide_eq_true (by omega)]; rfl
  · rw [if_neg h]
    by_cases h2 : j < i
    · rw [decide_eq_true h2, decide_eq_true (by omega)]
    · rw [decide_eq_false h2, decide_eq_false (by omega)]

theorem kC_congr {K L : Nat → Bool} (h : ∀ j, j < 8 → K j = L j) : kC K = kC L := by
  unfold kC
  refine List.map_congr_left fun j hj => ?_
  rw [h j (by simpa using hj)]

theorem allTo_end (R ro : Nat → Bool) : kC (allTo R ro 8) = kC (allF R ro) := kC_congr fun j hj => by
  unfold allTo; rw [decide_eq_true hj]; rfl

theorem card_mono {K L : Nat → Bool} (h : ∀ j, j < 8 → K j = true → L j = true) : cardK K ≤ cardK L ∧ (cardK L ≤ cardK K → ∀ j, j < 8 → L j = K j) := by
  have key : (List.range 8).filter K = ((List.range 8).filter L).filter K := by
    rw [List.filter_filter]
    refine List.filter_congr fun j hj => ?_
    have := h j (by simpa using hj)
    cases hk : K j <;> simp_all
  have hs : ((List.range 8).filter K).length ≤ ((List.range 8).filter L).length := by
    rw [key]; exact List.length_filter_le _ _
  refine ⟨hs, fun hle j hj => ?_⟩
  have he : (((List.range 8).filter L).filter K).length = ((List.range 8).filter L).length := by
    rw [← key]; exact Nat.le_antisymm hs hle
  have hall := List.length_filter_eq_length_iff.1 he
  cases hl : L j with
  | true => exact (hall j (by simp [hl, hj])).symm
  | false =>
    cases hk : K j with
    | false => rfl
    | true => have := h j hj hk; rw [hl] at this; cases this

structure Sp (W : Nat → Int) (R ro K K' : Nat → Bool) (t i : Nat) : Prop where
  sub : ∀ j, j < 8 → K' j = true → allF R ro j = true
  mono : ∀ j, K j = true → K' j = true
  did : ∀ t' i' : Nat, i' < 8 → (t' < t ∨ (t' = t ∧ i' < i)) → allF R ro i' = true → 1 ≤ whomF W R ro (allF R ro) ((i' : Int) + 1) (t' : Int) → whomF W R ro (allF R ro) ((i' : Int) + 1) (t' : Int) ≤ 8 →
    K (whomF W R ro (allF R ro) ((i' : Int) + 1) (t' : Int) - 1).toNat = true → K' i' = true

theorem Sp.init {W : Nat → Int} {R ro K : Nat → Bool} (h : ∀ j, j < 8 → K j = true → allF R ro j = true) : Sp W R ro K K 0 0 :=
  ⟨h, fun _ h => h, fun t' i' _ h => by omega⟩

theorem Sp.turn {W : Nat → Int} {R ro K K' : Nat → Bool} {t : Nat} (h : Sp W R ro K K' t 8) : Sp W R ro K K' (t + 1) 0 :=
  ⟨h.sub, h.mono, fun t' i' h1 h2 => h.did t' i' h1 (by omega)⟩

theorem Sp.no {W : Nat → Int} {R ro K K' : Nat → Bool} {t i : Nat} (h : Sp W R ro K K' t i)
    (hn : ¬ (allF R ro i = true ∧ 1 ≤ whomF W R ro (allF R ro) ((i : Int) + 1) (t : Int) ∧ whomF W R ro (allF R ro) ((i : Int) + 1) (t : Int) ≤ 8 ∧ K' (whomF W R ro (allF R ro) ((i : Int) + 1) (t : Int) - 1).toNat = true)) : Sp W R ro K K' t (i + 1) :=
  ⟨h.sub, h.mono, fun t' i' h1 h2 a b c d => by
    by_cases e : t' = t ∧ i' = i
    · obtain ⟨rfl, rfl⟩ := e
      exact absurd ⟨a, b, c, h.mono _ d⟩ hn
    · exact h.did t' i' h1 (by omega) a b c d⟩

theorem Sp.yes {W : Nat → Int} {R ro K K' : Nat → Bool} {t i : Nat} (h : Sp W R ro K K' t i) (ha : allF R ro i = true) : Sp W R ro K (updK K' i) t (i + 1) where
  sub := fun j hj => by
    unfold updK
    split
    · rename_i e; subst e; exact fun _ => ha
    · exact h.sub j hj
  mono := fun j hj => by unfold updK; split <;> first | rfl | exact h.mono j hj
  did := fun t' i' h1 h2 a b c d => by
    unfold updK
    by_cases e : i' = i
    · rw [if_pos e]
    · rw [if_neg e]; exact h.did t' i' h1 (by omega) a b c d

/-- how far it is behind r rounds -/
def Far (R ro K : Nat → Bool) (r : Nat) : Prop := r < cardK K ∨ ∀ j, j < 8 → allF R ro j = true → K j = true

theorem Sp.fin {W : Nat → Int} {R ro K K' : Nat → Bool} {r j0 : Nat} (hW : ∀ i, i < 8 → 0 ≤ W i ∧ W i ≤ 4) (h : Sp W R ro K K' 2 0) (hs : ∀ j, j < 8 → K j = true → allF R ro j = true) (h0 : j0 < 8) (hk : K j0 = true) (hf : Far R ro K r) : Far R ro K' (r + 1) := by
  rcases hf with hf | hf
  · obtain ⟨m1, m2⟩ := card_mono (K := K) (L := K') (fun j _ => h.mono j)
    by_cases hc : cardK K' ≤ cardK K
    · refine .inr fun i hi ai => ?_
      have heq := m2 hc
      have cl : Closed W R ro (fun j => K' j = true) := {
        even := fun i hi a b c d => h.did 0 i hi (by omega) a b c (by
          have e : (((0 : Nat) : Int)) = 0 := rfl
          rw [e, ← heq _ (by omega)]; exact d)
        odd := fun i hi a b c d => h.did 1 i hi (by omega) a b c (by
          have e : (((1 : Nat) : Int)) = 1 := rfl
          rw [e, ← heq _ (by omega)]; exact d) }
      exact closed_all hW cl hi h0 ai (hs _ h0 hk) (h.mono _ hk)
    · exact .inl (by omega)
  · exact .inr fun j hj a => h.mono j (hf j hj a)

theorem far_end {R ro K : Nat → Bool} (hs : ∀ j, j < 8 → K j = true → allF R ro j = true) (h : Far R ro K (cntTo R ro 8)) : kC K = kC (allF R ro) := by
  refine kC_congr fun j hj => ?_
  rcases h with h | h
  · have := (card_mono hs).1
    have e : cntTo R ro 8 = cardK (allF R ro) := rfl
    omega
  · cases ha : allF R ro j with
    | true => exact h j hj ha
    | false =>
      cases hk : K j with
      | false => rfl
      | true => have := hs j hj hk; rw [ha] at this; cases this

theorem whom_par {W : Nat → Int} {R ro up : Nat → Bool} {rep a b : Int} (h : a.tmod 2 = b.tmod 2) : whomF W R ro up rep a = whomF W R ro up rep b := by
  unfold whomF; rw [h]

def one8 (r : Nat) : Nat → Bool := fun j => decide (j = r)

theorem one8_card {r : Nat} (h : r < 8) : 0 < cardK (one8 r) := by
  refine List.length_pos_of_mem (a := r) ?_
  simp [one8, h]

theorem one8_put {r : Nat} (h : r < 8) : splice (kC fun _ => false) (0 + r) [vb true] = kC (one8 r) := by
  rw [kC_set h]
  refine kC_congr fun j _ => ?_
  unfold one8
  by_cases e : j = r <;> simp [e]

theorem kC_vals (K : Nat → Bool) : kC K = (((List.range 8).map K).map Value.bool).map PV.val := by
  simp [kC, vb]

end Go.Ab
