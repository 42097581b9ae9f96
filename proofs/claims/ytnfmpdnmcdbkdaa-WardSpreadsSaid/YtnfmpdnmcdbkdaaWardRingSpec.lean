/- Layer 20 in plain Lean: who goes on from one to the next comes by all and back. -/
import Derived.Test.YtnfmpdnmcdbkdaaWardSpec
namespace Go.Ab

/-- the next one, over the truths of eight -/
def nx (b : List Bool) (r : Nat) : Nat := (([1, 2, 3, 4, 5, 6, 7, 8].filter (fun m => Nat.blt r m) ++ [1, 2, 3, 4, 5, 6, 7, 8].filter (fun m => Nat.blt m r)).find? (fun m => b.getD (m - 1) false)).getD 0

def pathN (b : List Bool) : Nat → Nat → List Nat
  | _, 0 => []
  | r, n + 1 => nx b r :: pathN b (nx b r) n

def bits : Nat → List (List Bool)
  | 0 => [[]]
  | n + 1 => (bits n).flatMap fun l => [false :: l, true :: l]

theorem mem_bits : ∀ {n : Nat} {l : List Bool}, l.length = n → l ∈ bits n
  | 0, l, h => by rw [List.eq_nil_of_length_eq_zero h]; simp [bits]
  | n + 1, [], h => by simp at h
  | n + 1, b :: l, h => by
    have := mem_bits (n := n) (l := l) (by simpa using h)
    simp only [bits, List.mem_flatMap]
    exact ⟨l, this, by cases b <;> simp⟩

def cntB : List Bool → Nat
  | [] => 0
  | b :: l => (bif b then 1 else 0) + cntB l

def distinctB : List Nat → Bool
  | [] => true
  | x :: l => !(l.any fun y => Nat.beq x y) && distinctB l

def ringB (b : List Bool) (r : Nat) : Bool :=
  bif b.getD (r - 1) false then
    bif Nat.beq (cntB b) 1 then Nat.beq (nx b r) 0
    else (fun p => distinctB p && p.all (fun x => Nat.ble 1 x && Nat.ble x 8 && b.getD (x - 1) false) && Nat.beq (p.getLastD 0) r) (pathN b r (cntB b))
  else true

theorem ringB_all : ((bits 8).all fun b => [1, 2, 3, 4, 5, 6, 7, 8].all fun r => ringB b r) = true := by decide +kernel

theorem distinctB_get : ∀ {l : List Nat}, distinctB l = true → ∀ {i j : Nat} {x : Nat}, l[i]? = some x → l[j]? = some x → i = j
  | [], _, i, j, x, h, _ => by simp at h
  | y :: l, hd, i, j, x, hi, hj => by
    simp only [distinctB, Bool.and_eq_true, Bool.not_eq_true', List.any_eq_false] at hd
    have no : ∀ k : Nat, l[k]? = some y → False := fun k hk => by
      have := hd.1 y (List.mem_of_getElem? hk)
      simp at this
    cases i <;> cases j
    · rfl
    · simp at hi hj; subst hi; exact (no _ hj).elim
    · simp at hi hj; subst hj; exact (no _ hi).elim
    · simp at hi hj; rw [distinctB_get hd.2 hi hj]

theorem pathN_len (b : List Bool) : ∀ (n r : Nat), (pathN b r n).length = n
  | 0, _ => rfl
  | n + 1, r => by simp [pathN, pathN_len b n]

theorem pathN_get (b : List Bool) : ∀ (n r i : Nat), i < n → (pathN b r n)[i]? = some (nx b ((r :: pathN b r n).getD i 0))
  | 0, r, i, h => by omega
  | n + 1, r, 0, h => by simp [pathN]
  | n + 1, r, i + 1, h => by
    have := pathN_get b n (nx b r) i (by omega)
    simp only [pathN, List.getElem?_cons_succ, List.getD_cons_succ]
    exact this

/-- who is up of a ward -/
def vF (W : Nat → Int) (R ro up : Nat → Bool) (w : Int) (i : Nat) : Bool := ro i && !R i && (W i == w) && up i
def vB (W : Nat → Int) (R ro up : Nat → Bool) (w : Int) : List Bool := (List.range 8).map (vF W R ro up w)

theorem vB_get {W : Nat → Int} {R ro up : Nat → Bool} {w : Int} {i : Nat} (h : i < 8) : (vB W R ro up w).getD i false = vF W R ro up w i := by
  simp [vB, List.getD, h]

theorem members_eq (W : Nat → Int) (R ro : Nat → Bool) (w : Int) :
    membersF W R ro w = ([1, 2, 3, 4, 5, 6, 7, 8].map (fun (n : Nat) => (n : Int))).filter fun rep => hereF R ro rep && (ofF W rep == w) := by
  unfold membersF memTo
  rfl

theorem find_map_cast {q : Int → Bool} : ∀ (l : List Nat), ((l.map (fun (n : Nat) => (n : Int))).find? q).getD 0 = (((l.find? fun (n : Nat) => q (n : Int)).getD 0 : Nat) : Int)
  | [] => rfl
  | x :: l => by
    simp only [List.map_cons, List.find?_cons]
    cases q (x : Int)
    · exact find_map_cast l
    · rfl

theorem find_congr {α : Type} {p q : α → Bool} : ∀ {l : List α}, (∀ x, x ∈ l → p x = q x) → l.find? p = l.find? q
  | [], _ => rfl
  | x :: l, h => by
    simp only [List.find?_cons]
    rw [h x (by simp), find_congr (l := l) (fun y hy => h y (by simp [hy]))]

theorem vF_of {W : Nat → Int} {R ro up : Nat → Bool} {w : Int} {n : Nat} (h : 1 ≤ n ∧ n ≤ 8) :
    ((hereF R ro (n : Int) && (ofF W (n : Int) == w)) && up ((n : Int) - 1).toNat) = vF W R ro up w (n - 1) := by
  obtain ⟨m, rfl⟩ : ∃ m, n = m + 1 := ⟨n - 1, by omega⟩
  have hm : m < 8 := by omega
  have e : ((m + 1 : Nat) : Int) = (m : Int) + 1 := by omega
  rw [e, here_at hm, of_at hm, show ((m : Int) + 1 - 1).toNat = m by omega]
  rfl

theorem next_nx (W : Nat → Int) (R ro up : Nat → Bool) (r : Nat) : nextF W R ro up (r : Int) = (nx (vB W R ro up (ofF W (r : Int))) r : Nat) := by
  unfold nextF firstF ringF
  rw [members_eq]
  generalize hp : (fun rep : Int => hereF R ro rep && (ofF W rep == ofF W (r : Int))) = p
  generalize hL : [1, 2, 3, 4, 5, 6, 7, 8] = L
  have hb : ∀ n, n ∈ L → 1 ≤ n ∧ n ≤ 8 := by subst hL; decide
  have e1 : ∀ q : Int → Bool, ((L.map (fun (n : Nat) => (n : Int))).filter p).filter q = (((L.filter fun (n : Nat) => q (n : Int)).map (fun (n : Nat) => (n : Int))).filter p) := fun q => by
    rw [List.filter_filter, show (fun a => q a && p a) = (fun a => p a && q a) from funext fun a => Bool.and_comm _ _, ← List.filter_filter]
    congr 1
    rw [List.filter_map]; rfl
  rw [e1, e1, ← List.filter_append, ← List.map_append, List.find?_filter, find_map_cast]
  unfold nx
  rw [hL]
  congr 2
  have f1 : (L.filter fun n : Nat => decide ((n : Int) > (r : Int))) = L.filter fun m => Nat.blt r m := by
    congr 1; funext n
    rw [Bool.eq_iff_iff, decide_eq_true_iff, Nat.blt_eq]; omega
  have f2 : (L.filter fun n : Nat => decide ((n : Int) < (r : Int))) = L.filter fun m => Nat.blt m r := by
    congr 1; funext n
    rw [Bool.eq_iff_iff, decide_eq_true_iff, Nat.blt_eq]; omega
  rw [f1, f2]
  refine find_congr fun n hn => ?_
  have hn8 : 1 ≤ n ∧ n ≤ 8 := by
    rcases List.mem_append.1 hn with h | h <;> exact hb n (List.mem_filter.1 h).1
  rw [vB_get (by omega), ← vF_of hn8, ← hp]
  show decide ((hereF R ro (n : Int) && (ofF W (n : Int) == ofF W (r : Int))) = true ∧ up ((n : Int) - 1).toNat = true) = _
  simp only [Bool.decide_and, Bool.decide_eq_true]

theorem cntB_vB (v : Nat → Bool) : ∀ n, cntB ((List.range n).map v) = ((List.range n).filter v).length
  | 0 => rfl
  | n + 1 => by
    have h : ∀ l : List Bool, ∀ b, cntB (l ++ [b]) = cntB l + (bif b then 1 else 0) := fun l => by
      induction l with
      | nil => intro b; simp [cntB]
      | cons a l ih => intro b; simp only [List.cons_append, cntB, ih]; omega
    rw [List.range_succ, List.map_append, List.filter_append, List.map_cons, List.map_nil, h, cntB_vB v n, List.length_append]
    cases hv : v n <;> simp [hv]

theorem up_count (W : Nat → Int) (R ro up : Nat → Bool) (w : Int) : ((membersF W R ro w).filter fun m => up (m - 1).toNat).length = cntB (vB W R ro up w) := by
  unfold vB
  rw [cntB_vB, members_eq, List.filter_filter]
  have e : [1, 2, 3, 4, 5, 6, 7, 8].map (fun (n : Nat) => (n : Int)) = (List.range 8).map fun i => ((i + 1 : Nat) : Int) := by decide
  rw [e, List.filter_map, List.length_map]
  congr 1
  refine List.filter_congr fun i hi => ?_
  have hi8 : i < 8 := by simpa using hi
  have := vF_of (W := W) (R := R) (ro := ro) (up := up) (w := w) (n := i + 1) ⟨by omega, by omega⟩
  simp only [Function.comp] at this ⊢
  rw [Bool.and_comm, this]; rfl

structure Ring (W : Nat → Int) (R ro up : Nat → Bool) (rep : Int) (n : Nat) (at_ : Nat → Int) (seen : Nat → Nat → Bool) : Prop where
  a0 : at_ 0 = rep
  s0 : ∀ j, seen 0 j = false
  nx : ∀ i, i < n → nextF W R ro up (at_ i) = at_ (i + 1)
  bd : ∀ i, i ≤ n → 1 ≤ at_ i ∧ at_ i ≤ 8
  ns : ∀ i, i < n → seen i (at_ (i + 1) - 1).toNat = false
  s1 : ∀ i, i < n → ∀ j, seen (i + 1) j = if j = (at_ (i + 1) - 1).toNat then true else seen i j
  of : ∀ i, i ≤ n → ofF W (at_ i) = ofF W rep
  ne : ∀ i, i < n → i + 1 ≠ n → at_ (i + 1) ≠ rep
  e : at_ n = rep

theorem ring_all {W : Nat → Int} {R ro up : Nat → Bool} {rep : Int} (h1 : 1 ≤ rep) (h8 : rep ≤ 8) (hh : ro (rep - 1).toNat = true) (hr : R (rep - 1).toNat = false) (hu : up (rep - 1).toNat = true) :
    let n := ((membersF W R ro (ofF W rep)).filter fun m => up (m - 1).toNat).length
    (n = 1 → nextF W R ro up rep = 0) ∧ (n ≠ 1 → 0 < n ∧ n ≤ 8 ∧ ∃ at_ seen, Ring W R ro up rep n at_ seen) := by
  intro n
  obtain ⟨r, rfl⟩ : ∃ r : Nat, rep = (r : Int) := ⟨rep.toNat, by omega⟩
  have hr1 : 1 ≤ r := by omega
  have hr8 : r ≤ 8 := by omega
  have er : ((r : Int) - 1).toNat = r - 1 := by omega
  rw [er] at hh hr hu
  have hn : n = cntB (vB W R ro up (ofF W (r : Int))) := up_count _ _ _ _ _
  generalize hb : vB W R ro up (ofF W (r : Int)) = b at hn
  have hbl : b.length = 8 := by subst hb; simp [vB]
  have hob : ofF W (r : Int) = W (r - 1) := by
    unfold ofF; rw [if_neg (by omega), er]
  have hbr : b.getD (r - 1) false = true := by
    subst hb; rw [vB_get (by omega)]; unfold vF; rw [hh, hr, hu, hob]; simp
  have key : ringB b r = true := by
    have := List.all_eq_true.1 ringB_all b (mem_bits hbl)
    refine List.all_eq_true.1 this r ?_
    have : r = 1 ∨ r = 2 ∨ r = 3 ∨ r = 4 ∨ r = 5 ∨ r = 6 ∨ r = 7 ∨ r = 8 := by omega
    rcases this with rfl | rfl | rfl | rfl | rfl | rfl | rfl | rfl <;> simp
  have hcnt : 0 < cntB b := by
    have : ∀ (l : List Bool) (i : Nat), l.getD i false = true → 0 < cntB l := fun l => by
      induction l with
      | nil => intro i h; simp at h
      | cons a l ih =>
        intro i h
        cases i with
        | zero => simp at h; subst h; simp only [cntB, cond_true]; omega
        | succ i => simp only [List.getD_cons_succ] at h; have := ih i h; simp only [cntB]; omega
    exact this b _ hbr
  have hcnt8 : cntB b ≤ 8 := by
    have : ∀ l : List Bool, cntB l ≤ l.length := fun l => by
      induction l with
      | nil => simp [cntB]
      | cons a l ih => simp only [cntB, List.length_cons]; cases a <;> simp <;> omega
    have := this b; omega
  unfold ringB at key
  rw [hbr] at key
  simp only [cond_true] at key
  refine ⟨fun h => ?_, fun h => ?_⟩
  · rw [← hn, h] at key
    rw [next_nx, hb]
    have : nx b r = 0 := by simpa using key
    rw [this]; rfl
  · have hne : Nat.beq (cntB b) 1 = false := by
      rw [Bool.eq_false_iff]; intro e; exact h (by rw [hn]; exact Nat.eq_of_beq_eq_true e)
    rw [hne, ← hn] at key
    simp only [cond_false, Bool.and_eq_true] at key
    obtain ⟨⟨hd, hall⟩, hlast⟩ := key
    have hlast := Nat.eq_of_beq_eq_true hlast
    have hlen := pathN_len b n r
    have hget := fun i hi => pathN_get b n r i hi
    generalize pathN b r n = p at hd hall hlast hlen hget
    have hnp : 0 < n := by omega
    have hpb : ∀ i, i < n → p[i]? = some (p.getD i 0) := fun i hi => by
      have : i < p.length := by omega
      simp [List.getD, this]
    have hin : ∀ i, i < n → 1 ≤ p.getD i 0 ∧ p.getD i 0 ≤ 8 ∧ b.getD (p.getD i 0 - 1) false = true := fun i hi => by
      have := List.all_eq_true.1 hall _ (List.mem_of_getElem? (hpb i hi))
      simp only [Bool.and_eq_true, Nat.ble_eq] at this
      exact ⟨this.1.1, this.1.2, this.2⟩
    have hlr : p.getD (n - 1) 0 = r := by
      rw [← hlast, List.getLastD_eq_getLast?, List.getLast?_eq_getElem?, hlen, hpb (n - 1) (by omega)]; rfl
    have hofp : ∀ i, i < n → ofF W ((p.getD i 0 : Nat) : Int) = ofF W (r : Int) := fun i hi => by
      obtain ⟨a1, a2, a3⟩ := hin i hi
      rw [← hb, vB_get (by omega)] at a3
      unfold vF at a3
      simp only [Bool.and_eq_true, beq_iff_eq] at a3
      unfold ofF at a3 ⊢
      rw [if_neg (by omega), show (((p.getD i 0 : Nat) : Int) - 1).toNat = p.getD i 0 - 1 by omega]
      exact a3.1.2
    refine ⟨hnp, by omega, fun i => (((r :: p).getD i 0 : Nat) : Int), fun i j => (p.take i).any fun x => Nat.beq x (j + 1), ?_⟩
    have hof : ∀ i, i ≤ n → ofF W (((r :: p).getD i 0 : Nat) : Int) = ofF W (r : Int) := fun i hi => by
      cases i with
      | zero => rfl
      | succ i => simp only [List.getD_cons_succ]; exact hofp i (by omega)
    exact {
      a0 := rfl
      s0 := fun j => by simp
      nx := fun i hi => by
        show nextF W R ro up (((r :: p).getD i 0 : Nat) : Int) = _
        rw [next_nx, hof i (by omega), hb]
        have := hget i hi
        rw [hpb i hi] at this
        simp only [Option.some.injEq] at this
        rw [← this, List.getD_cons_succ]
      bd := fun i hi => by
        cases i with
        | zero => simp only [List.getD_cons_zero]; omega
        | succ i => simp only [List.getD_cons_succ]; have := hin i (by omega); omega
      ns := fun i hi => by
        obtain ⟨a1, a2, _⟩ := hin i hi
        simp only [List.getD_cons_succ]
        rw [List.any_eq_false]
        intro x hx e
        have ex : x = p.getD i 0 := by have := Nat.eq_of_beq_eq_true e; omega
        subst ex
        obtain ⟨k, hk⟩ := List.mem_iff_getElem?.1 hx
        rw [List.getElem?_take] at hk
        split at hk
        · have := distinctB_get hd hk (hpb i hi); omega
        · cases hk
      s1 := fun i hi j => by
        obtain ⟨a1, a2, _⟩ := hin i hi
        simp only [List.getD_cons_succ]
        rw [List.take_add_one, hpb i hi]
        simp only [Option.toList_some, List.any_append, List.any_cons, List.any_nil, Bool.or_false]
        by_cases hj : j = (((p.getD i 0 : Nat) : Int) - 1).toNat
        · rw [if_pos hj, show Nat.beq (p.getD i 0) (j + 1) = true from by rw [show j + 1 = p.getD i 0 by omega]; simp]; simp
        · rw [if_neg hj, show Nat.beq (p.getD i 0) (j + 1) = false from by rw [Bool.eq_false_iff]; intro e; have := Nat.eq_of_beq_eq_true e; omega]; simp
      of := hof
      ne := fun i hi hne' e => by
        simp only [List.getD_cons_succ] at e
        have e' : p.getD i 0 = p.getD (n - 1) 0 := by rw [hlr]; omega
        have h1 := hpb i hi
        rw [e'] at h1
        have := distinctB_get hd h1 (hpb (n - 1) (by omega)); omega
      e := by
        obtain ⟨m, hm⟩ : ∃ m, n = m + 1 := ⟨n - 1, by omega⟩
        have hlr' := hlr
        rw [hm] at hlr' ⊢
        simp only [List.getD_cons_succ]
        simp only [Nat.add_sub_cancel] at hlr'
        omega }

def cntF (l : List Int) (up : Nat → Bool) (i : Nat) : Int := (((l.take i).filter fun m => up (m - 1).toNat).length : Nat)

theorem cntF_succ {l : List Int} {i : Nat} (h : i < l.length) (up : Nat → Bool) : cntF l up (i + 1) = if up (l.getD i 0 - 1).toNat = true then cntF l up i + 1 else cntF l up i := by
  unfold cntF
  have e : l[i]? = some (l.getD i 0) := by simp [List.getD, h]
  rw [List.take_add_one, e, List.filter_append, List.length_append]
  simp only [Option.toList_some, List.filter_cons, List.filter_nil]
  split <;> simp

theorem cntF_bd (l : List Int) (up : Nat → Bool) (i : Nat) : 0 ≤ cntF l up i ∧ cntF l up i ≤ i := by
  unfold cntF
  have := List.length_filter_le (fun m : Int => up (m - 1).toNat) (l.take i)
  have h2 : (l.take i).length ≤ i := by simp; omega
  omega

def seenC (sn : Nat → Nat → Bool) (i : Nat) : List PV := (List.range 8).map fun j => vb (sn i j)

theorem seenC_get {sn : Nat → Nat → Bool} {i j : Nat} (h : j < 8) : (seenC sn i)[j]? = some (vb (sn i j)) := by simp [seenC, h]

theorem seenC_len (sn : Nat → Nat → Bool) (i : Nat) : (seenC sn i).length = 8 := by simp [seenC]

theorem seenC_pure (sn : Nat → Nat → Bool) (i : Nat) : Pures (seenC sn i) := Pures_iff.2 fun p hp => by
  simp only [seenC, List.mem_map] at hp; obtain ⟨_, _, rfl⟩ := hp; trivial

theorem seenC_put {sn : Nat → Nat → Bool} {i k : Nat} (hk : k < 8) (h : ∀ j, sn (i + 1) j = if j = k then true else sn i j) : splice (seenC sn i) (0 + k) [vb true] = seenC sn (i + 1) := by
  rw [Nat.zero_add]
  refine List.ext_getElem? fun j => ?_
  by_cases hj : j < 8
  · rw [seenC_get hj, h]
    rw [splice_get _ _ _ _ (by rw [seenC_len]; simp; omega)]
    simp only [List.length_cons, List.length_nil]
    by_cases hjk : j = k
    · subst hjk; simp
    · rw [if_neg (by omega), if_neg hjk, seenC_get hj]
  · have h1 : (seenC sn (i + 1))[j]? = none := by rw [List.getElem?_eq_none_iff, seenC_len]; omega
    rw [h1, List.getElem?_eq_none_iff, splice_length _ _ _ (by rw [seenC_len]; simp; omega), seenC_len]; omega

structure RingW (W : Nat → Int) (R ro up : Nat → Bool) (rep : Int) (n : Nat) (at_ : Nat → Int) (sn : Nat → Nat → Bool) : Prop where
  a0 : at_ 0 = rep
  s0 : ∀ j, sn 0 j = false
  e : at_ n = rep
  pos : 0 < n
  le : n ≤ 8
  one : n = 1 → nextF W R ro up rep = 0
  ring : n ≠ 1 → Ring W R ro up rep n at_ sn

theorem ringW {W : Nat → Int} {R ro up : Nat → Bool} {rep : Int} (h1 : 1 ≤ rep) (h8 : rep ≤ 8) (hh : ro (rep - 1).toNat = true) (hr : R (rep - 1).toNat = false) (hu : up (rep - 1).toNat = true) :
    ∃ n at_ sn, cntF (membersF W R ro (ofF W rep)) up (membersF W R ro (ofF W rep)).length = (n : Nat) ∧ RingW W R ro up rep n at_ sn := by
  obtain ⟨ha, hb⟩ := ring_all h1 h8 hh hr hu
  by_cases hn : ((membersF W R ro (ofF W rep)).filter fun m => up (m - 1).toNat).length = 1
  · exact ⟨1, fun _ => rep, fun _ _ => false, by unfold cntF; rw [List.take_length, hn], rfl, fun _ => rfl, rfl, by omega, by omega, fun _ => ha hn, fun h => absurd rfl h⟩
  · obtain ⟨a, b, at_, sn, hR⟩ := hb hn
    exact ⟨_, at_, sn, by unfold cntF; rw [List.take_length], hR.a0, hR.s0, hR.e, a, b, fun h => absurd h hn, fun _ => hR⟩

end Go.Ab
