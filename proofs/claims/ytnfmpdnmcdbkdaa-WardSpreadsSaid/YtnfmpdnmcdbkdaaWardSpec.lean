/- Layer 20 in plain Lean: wards, who is here, members, rings. Nothing of Go in it but the shape of the cells. -/
import Derived.Test.YtnfmpdnmcdbkdaaAb13
namespace Go.Ab

structure IsSt (S : List PV) (W : Nat → Int) (R : Nat → Bool) : Prop where
  len : S.length = 26
  w : ∀ i, i < 8 → S[10 + i]? = some (vi .i64 (W i))
  r : ∀ i, i < 8 → S[18 + i]? = some (vb (R i))
  pure : Pures S

structure IsB (cs : List PV) (b : Nat → Bool) : Prop where
  len : cs.length = 8
  get : ∀ i, i < 8 → cs[i]? = some (vb (b i))
  pure : Pures cs

def ofF (W : Nat → Int) (rep : Int) : Int := if rep < 1 ∨ rep > 8 then 0 else W (rep - 1).toNat
def hereF (R ro : Nat → Bool) (rep : Int) : Bool := decide (rep ≥ 1) && decide (rep ≤ 8) && ro (rep - 1).toNat && !R (rep - 1).toNat
def memTo (W : Nat → Int) (R ro : Nat → Bool) (w : Int) (k : Nat) : List Int := ((List.range k).map fun (i : Nat) => (i : Int) + 1).filter fun rep => hereF R ro rep && (ofF W rep == w)
def membersF (W : Nat → Int) (R ro : Nat → Bool) (w : Int) : List Int := memTo W R ro w 8

theorem memTo_succ (W : Nat → Int) (R ro : Nat → Bool) (w : Int) (k : Nat) :
    memTo W R ro w (k + 1) = memTo W R ro w k ++ (if (hereF R ro ((k : Int) + 1) && (ofF W ((k : Int) + 1) == w)) = true then [(k : Int) + 1] else []) := by
  unfold memTo
  rw [List.range_succ, List.map_append, List.filter_append]
  congr 1
  simp only [List.map_cons, List.map_nil, List.filter_cons, List.filter_nil]

theorem memTo_len (W : Nat → Int) (R ro : Nat → Bool) (w : Int) (k : Nat) : (memTo W R ro w k).length ≤ k := by
  unfold memTo
  refine Nat.le_trans (List.length_filter_le _ _) ?_
  simp

theorem mem_memTo {W : Nat → Int} {R ro : Nat → Bool} {w : Int} {k : Nat} {m : Int} : m ∈ memTo W R ro w k ↔ (1 ≤ m ∧ m ≤ k) ∧ hereF R ro m = true ∧ ofF W m = w := by
  unfold memTo
  simp only [List.mem_filter, List.mem_map, List.mem_range, Bool.and_eq_true, beq_iff_eq]
  constructor
  · rintro ⟨⟨i, hi, rfl⟩, h1, h2⟩
    exact ⟨⟨by omega, by omega⟩, h1, h2⟩
  · rintro ⟨⟨h1, h2⟩, h3, h4⟩
    exact ⟨⟨(m - 1).toNat, by omega, by omega⟩, h3, h4⟩

theorem members_lo {W : Nat → Int} {R ro : Nat → Bool} {w m : Int} (h : m ∈ membersF W R ro w) : 1 ≤ m ∧ m ≤ 8 := (mem_memTo.1 h).1

/-- the first of some that is up -/
def firstF (l : List Int) (up : Nat → Bool) : Int := (l.find? fun m => up (m - 1).toNat).getD 0
def masterF (W : Nat → Int) (R ro up : Nat → Bool) (w : Int) : Int := firstF (membersF W R ro w) up
def ringF (W : Nat → Int) (R ro : Nat → Bool) (rep : Int) : List Int :=
  (membersF W R ro (ofF W rep)).filter (fun m => decide (m > rep)) ++ (membersF W R ro (ofF W rep)).filter (fun m => decide (m < rep))
def nextF (W : Nat → Int) (R ro up : Nat → Bool) (rep : Int) : Int := firstF (ringF W R ro rep) up

theorem here_at {R ro : Nat → Bool} {i : Nat} (h : i < 8) : hereF R ro ((i : Int) + 1) = (ro i && !R i) := by
  have e : ((i : Int) + 1 - 1).toNat = i := by omega
  unfold hereF
  rw [e, show decide ((i : Int) + 1 ≥ 1) = true from decide_eq_true (by omega), show decide ((i : Int) + 1 ≤ 8) = true from decide_eq_true (by omega)]
  simp

theorem of_at {W : Nat → Int} {i : Nat} (h : i < 8) : ofF W ((i : Int) + 1) = W i := by
  have e : ((i : Int) + 1 - 1).toNat = i := by omega
  unfold ofF
  rw [if_neg (by omega), e]

theorem cell_mapN {α : Type} {l : List α} {f : α → PV} {i : Nat} {d : α} (h : i < l.length) : ((l.map f).drop (((i : Nat) : Int).toNat * 1))[0]? = some (f (l.getD i d)) := by
  rw [List.getElem?_drop, List.getElem?_map]
  simp [h, List.getD]

theorem atIn {l : List Int} (hl : ∀ m, m ∈ l → 1 ≤ m ∧ m ≤ 8) {i : Nat} (h : i < l.length) : 1 ≤ l.getD i 0 ∧ l.getD i 0 ≤ 8 := by
  have : l.getD i 0 = l[i] := by simp [List.getD, h]
  rw [this]; exact hl _ (List.getElem_mem h)

theorem firstF_nil (up : Nat → Bool) : firstF [] up = 0 := rfl
theorem firstF_cons (m : Int) (l : List Int) (up : Nat → Bool) : firstF (m :: l) up = if up (m - 1).toNat = true then m else firstF l up := by
  unfold firstF
  rw [List.find?_cons]
  cases up (m - 1).toNat <;> simp

theorem drop_at {l : List Int} {i : Nat} (h : i < l.length) : l.drop i = l.getD i 0 :: l.drop (i + 1) := by
  rw [List.drop_eq_getElem_cons h]; simp [List.getD, h]

theorem firstF_drop {l : List Int} {i : Nat} (h : i < l.length) (up : Nat → Bool) : firstF (l.drop i) up = if up (l.getD i 0 - 1).toNat = true then l.getD i 0 else firstF (l.drop (i + 1)) up := by
  rw [drop_at h, firstF_cons]

/-- the program's way to the next one -/
def nextL (rep : Int) (up : Nat → Bool) : List Int → Int → Int
  | [], f => f
  | m :: r, f => if m = rep ∨ up (m - 1).toNat = false then nextL rep up r f else if m > rep then m else if f = 0 then nextL rep up r m else nextL rep up r f

theorem nextL_drop {rep : Int} {up : Nat → Bool} {l : List Int} {i : Nat} {f : Int} (h : i < l.length) : nextL rep up (l.drop i) f =
    if l.getD i 0 = rep ∨ up (l.getD i 0 - 1).toNat = false then nextL rep up (l.drop (i + 1)) f else if l.getD i 0 > rep then l.getD i 0 else if f = 0 then nextL rep up (l.drop (i + 1)) (l.getD i 0) else nextL rep up (l.drop (i + 1)) f := by
  rw [drop_at h]; rfl

theorem nextL_all {rep : Int} {up : Nat → Bool} : ∀ (l : List Int) (f : Int), (∀ m, m ∈ l → 1 ≤ m) → nextL rep up l f =
    if firstF (l.filter fun m => decide (m > rep)) up ≠ 0 then firstF (l.filter fun m => decide (m > rep)) up else if f ≠ 0 then f else firstF (l.filter fun m => decide (m < rep)) up
  | [], f, _ => by
    simp only [nextL, List.filter_nil, firstF_nil]
    by_cases h : f = 0 <;> simp [h]
  | m :: l, f, h => by
    have hm := h m (by simp)
    have ih := fun g => nextL_all (rep := rep) (up := up) l g (fun x hx => h x (by simp [hx]))
    simp only [nextL]
    by_cases h1 : m = rep ∨ up (m - 1).toNat = false
    · rw [if_pos h1, ih]
      rcases h1 with h1 | h1
      · have e1 : decide (m > rep) = false := decide_eq_false (by omega)
        have e2 : decide (m < rep) = false := decide_eq_false (by omega)
        simp only [List.filter_cons, e1, e2, Bool.false_eq_true, if_false]
      · have e : ∀ p : Int → Bool, firstF ((m :: l).filter p) up = firstF (l.filter p) up := fun p => by
          rw [List.filter_cons]
          split
          · rw [firstF_cons, if_neg (by rw [h1]; simp)]
          · rfl
        rw [e, e]
    · rw [if_neg h1]
      have hup : up (m - 1).toNat = true := by
        cases hu : up (m - 1).toNat with
        | true => rfl
        | false => exact absurd (.inr hu) h1
      have hne : m ≠ rep := fun e => h1 (.inl e)
      by_cases h2 : m > rep
      · rw [if_pos h2]
        have e1 : decide (m > rep) = true := decide_eq_true h2
        simp only [List.filter_cons, e1, if_true, firstF_cons, hup]
        rw [if_pos (by omega)]
      · rw [if_neg h2]
        have e1 : decide (m > rep) = false := decide_eq_false h2
        have e2 : decide (m < rep) = true := decide_eq_true (by omega)
        simp only [List.filter_cons, e1, e2, Bool.false_eq_true, if_false, if_true, firstF_cons, hup]
        by_cases h3 : f = 0
        · subst h3
          rw [if_pos rfl, ih]
          simp only [ne_eq, not_true_eq_false, if_false]
          rw [if_pos (show ¬ m = 0 by omega)]
        · rw [if_neg h3, ih]
          simp [h3]

theorem firstF_append {up : Nat → Bool} : ∀ (a b : List Int), (∀ m, m ∈ a → 1 ≤ m) → firstF (a ++ b) up = if firstF a up ≠ 0 then firstF a up else firstF b up
  | [], b, _ => by simp [firstF_nil]
  | m :: a, b, h => by
    have hm := h m (by simp)
    rw [List.cons_append, firstF_cons, firstF_cons, firstF_append a b (fun x hx => h x (by simp [hx]))]
    by_cases hu : up (m - 1).toNat = true
    · simp only [hu, if_true]; rw [if_pos (by omega)]
    · rw [if_neg hu, if_neg hu]

theorem next_eq (W : Nat → Int) (R ro up : Nat → Bool) (rep : Int) : nextL rep up (membersF W R ro (ofF W rep)) 0 = nextF W R ro up rep := by
  rw [nextL_all _ _ (fun m hm => (members_lo hm).1)]
  unfold nextF ringF
  rw [firstF_append _ _ (fun m hm => (members_lo ((List.mem_filter.1 hm).1)).1)]
  simp

/-- the ones that speak for the wards behind one -/
def beyL (W : Nat → Int) (R ro up : Nat → Bool) (w : Int) : Nat → Int → Int
  | 0, _ => 0
  | n + 1, i => if masterF W R ro up ((w + i).tmod 5) ≠ 0 then masterF W R ro up ((w + i).tmod 5) else beyL W R ro up w n (i + 1)
def beyondF (W : Nat → Int) (R ro up : Nat → Bool) (w : Int) : Int := beyL W R ro up w 4 1

def setUp (up : Nat → Bool) (rep : Int) : Nat → Bool := fun j => if j = (rep - 1).toNat then true else up j

theorem IsB.set {B : List PV} {up : Nat → Bool} (h : IsB B up) {rep : Int} (h1 : 1 ≤ rep) (h8 : rep ≤ 8) : IsB (splice B (0 + (rep - 1).toNat) [vb true]) (setUp up rep) where
  len := by rw [splice_length _ _ _ (by simp [h.len]; omega), h.len]
  get := fun i hi => by
    rw [splice_get _ _ _ _ (by simp [h.len]; omega), Nat.zero_add]
    unfold setUp
    by_cases e : i = (rep - 1).toNat
    · subst e
      rw [if_pos (by simp), if_pos rfl]; simp
    · rw [if_neg (by simp; omega), if_neg e]; exact h.get i hi
  pure := by
    rw [Pures_iff]
    intro p hp
    simp only [splice, List.mem_append] at hp
    have hB := Pures_iff.1 h.pure
    rcases hp with (hp | hp) | hp
    · exact hB p (List.mem_of_mem_take hp)
    · simp at hp; subst hp; trivial
    · exact hB p (List.mem_of_mem_drop hp)

theorem setUp_self (up : Nat → Bool) (rep : Int) : setUp up rep (rep - 1).toNat = true := by simp [setUp]
theorem setUp_ne {up : Nat → Bool} {rep m : Int} (h1 : 1 ≤ rep) (h2 : 1 ≤ m) (h : m ≠ rep) : setUp up rep (m - 1).toNat = up (m - 1).toNat := by
  unfold setUp; rw [if_neg (by omega)]

def whomF (W : Nat → Int) (R ro up : Nat → Bool) (rep time : Int) : Int :=
  if hereF R ro rep = false then 0
  else if masterF W R ro (setUp up rep) (ofF W rep) ≠ rep then nextF W R ro up rep
  else if nextF W R ro up rep = 0 ∨ (time.tmod 2 = 1 ∧ beyondF W R ro up (ofF W rep) ≠ 0) then beyondF W R ro up (ofF W rep)
  else nextF W R ro up rep

theorem here_bd {R ro : Nat → Bool} {rep : Int} (h : hereF R ro rep = true) : 1 ≤ rep ∧ rep ≤ 8 ∧ ro (rep - 1).toNat = true ∧ R (rep - 1).toNat = false := by
  unfold hereF at h
  simp only [Bool.and_eq_true, decide_eq_true_eq, Bool.not_eq_true'] at h
  exact ⟨h.1.1.1, h.1.1.2, h.1.2, h.2⟩

theorem self_mem {W : Nat → Int} {R ro : Nat → Bool} {rep : Int} (h : hereF R ro rep = true) : rep ∈ membersF W R ro (ofF W rep) :=
  mem_memTo.2 ⟨⟨(here_bd h).1, by have := (here_bd h).2.1; omega⟩, h, rfl⟩

theorem firstF_ne {up : Nat → Bool} {m : Int} : ∀ {l : List Int}, (∀ x, x ∈ l → 1 ≤ x) → m ∈ l → up (m - 1).toNat = true → firstF l up ≠ 0
  | [], _, h, _ => by cases h
  | x :: l, hl, h, hu => by
    rw [firstF_cons]
    split
    · have := hl x (by simp); omega
    · rename_i hx
      rcases List.mem_cons.1 h with e | h
      · subst e; exact absurd hu hx
      · exact firstF_ne (fun y hy => hl y (by simp [hy])) h hu

theorem filter_take {l : List Int} {i : Nat} (h : i < l.length) (p : Int → Bool) : (l.take (i + 1)).filter p = (l.take i).filter p ++ (if p (l.getD i 0) = true then [l.getD i 0] else []) := by
  have : l.take (i + 1) = l.take i ++ [l.getD i 0] := by
    rw [List.take_succ_eq_append_getElem h]; simp [List.getD, h]
  rw [this, List.filter_append]
  congr 1
  simp only [List.filter_cons, List.filter_nil]

theorem of_bd {W : Nat → Int} (hW : ∀ i, i < 8 → 0 ≤ W i ∧ W i ≤ 4) (rep : Int) : 0 ≤ ofF W rep ∧ ofF W rep ≤ 4 := by
  unfold ofF
  split
  · omega
  · exact hW _ (by omega)

theorem ring_lo {W : Nat → Int} {R ro : Nat → Bool} {rep m : Int} (h : m ∈ ringF W R ro rep) : 1 ≤ m ∧ m ≤ 8 := by
  unfold ringF at h
  rcases List.mem_append.1 h with h | h <;> exact members_lo ((List.mem_filter.1 h).1)

theorem ring_len (W : Nat → Int) (R ro : Nat → Bool) (w : Int) : (membersF W R ro w).length ≤ 8 := memTo_len _ _ _ _ _

theorem ringF_len (W : Nat → Int) (R ro : Nat → Bool) (rep : Int) : (ringF W R ro rep).length ≤ 16 := by
  unfold ringF
  have h1 := List.length_filter_le (fun m => decide (m > rep)) (membersF W R ro (ofF W rep))
  have h2 := List.length_filter_le (fun m => decide (m < rep)) (membersF W R ro (ofF W rep))
  have h3 := ring_len W R ro (ofF W rep)
  simp only [List.length_append]
  omega

theorem here_mk {R ro : Nat → Bool} {rep : Int} (h1 : ¬ rep < 1) (h2 : ¬ rep > 8) (h3 : ro (rep - 1).toNat = true) (h4 : R (rep - 1).toNat = false) : hereF R ro rep = true := by
  unfold hereF
  rw [h3, h4, show decide (rep ≥ 1) = true from decide_eq_true (by omega), show decide (rep ≤ 8) = true from decide_eq_true (by omega)]; rfl
theorem here_no1 {R ro : Nat → Bool} {rep : Int} (h1 : rep < 1) : hereF R ro rep = false := by
  unfold hereF
  rw [show decide (rep ≥ 1) = false from decide_eq_false (by omega)]; rfl
theorem here_no2 {R ro : Nat → Bool} {rep : Int} (h1 : rep > 8) : hereF R ro rep = false := by
  unfold hereF
  rw [show decide (rep ≤ 8) = false from decide_eq_false (by omega)]; simp
theorem here_no3 {R ro : Nat → Bool} {rep : Int} (h3 : ro (rep - 1).toNat = false) : hereF R ro rep = false := by
  unfold hereF; rw [h3]; simp
theorem here_no4 {R ro : Nat → Bool} {rep : Int} (h3 : R (rep - 1).toNat = true) : hereF R ro rep = false := by
  unfold hereF; rw [h3]; simp

theorem mas_end {W : Nat → Int} {R ro up : Nat → Bool} {rep : Int} (hh : hereF R ro rep = true) {i : Nat} (hi : ¬ i < (membersF W R ro (ofF W rep)).length)
    (hinv : firstF ((membersF W R ro (ofF W rep)).drop i) (setUp up rep) = masterF W R ro (setUp up rep) (ofF W rep)) : masterF W R ro (setUp up rep) (ofF W rep) = rep := by
  exfalso
  rw [List.drop_eq_nil_of_le (by omega), firstF_nil] at hinv
  exact firstF_ne (fun x hx => (members_lo hx).1) (self_mem hh) (setUp_self up rep) hinv.symm

theorem mas_at {W : Nat → Int} {R ro up : Nat → Bool} {rep : Int} {i : Nat} (hi : i < (membersF W R ro (ofF W rep)).length)
    (hinv : firstF ((membersF W R ro (ofF W rep)).drop i) (setUp up rep) = masterF W R ro (setUp up rep) (ofF W rep)) (he : (membersF W R ro (ofF W rep)).getD i 0 = rep) :
    masterF W R ro (setUp up rep) (ofF W rep) = rep := by
  rw [← hinv, firstF_drop hi, he, if_pos (setUp_self up rep)]

theorem mas_ne {W : Nat → Int} {R ro up : Nat → Bool} {rep : Int} {i : Nat} (hh : hereF R ro rep = true) (hi : i < (membersF W R ro (ofF W rep)).length)
    (hinv : firstF ((membersF W R ro (ofF W rep)).drop i) (setUp up rep) = masterF W R ro (setUp up rep) (ofF W rep)) (he : (membersF W R ro (ofF W rep)).getD i 0 ≠ rep)
    (hu : up ((membersF W R ro (ofF W rep)).getD i 0 - 1).toNat = true) : masterF W R ro (setUp up rep) (ofF W rep) ≠ rep := by
  have hb := atIn (fun m h => members_lo h) hi
  rw [← hinv, firstF_drop hi, setUp_ne (here_bd hh).1 hb.1 he, hu, if_pos rfl]
  exact he

theorem bey_step (W : Nat → Int) (R ro up : Nat → Bool) (w : Int) {j : Nat} (h1 : 1 ≤ j) (h4 : j ≤ 4) : beyL W R ro up w (4 - (j - 1)) (((j - 1 : Nat) : Int) + 1) =
    if masterF W R ro up ((w + (j : Int)).tmod 5) ≠ 0 then masterF W R ro up ((w + (j : Int)).tmod 5) else beyL W R ro up w (4 - j) ((j : Int) + 1) := by
  have e1 : 4 - (j - 1) = (4 - j) + 1 := by omega
  have e2 : (((j - 1 : Nat) : Int) + 1) = (j : Int) := by omega
  rw [e1, e2]; rfl

/-- a place, as the laws are handed it -/
structure IsPl (S : List PV) (W : Nat → Int) (R ro up : Nat → Bool) : Prop where
  len : S.length = 32
  w : ∀ i, i < 8 → S[i]? = some (vi .i64 (W i))
  r : ∀ i, i < 8 → S[8 + i]? = some (vb (R i))
  ro : ∀ i, i < 8 → S[16 + i]? = some (vb (ro i))
  up : ∀ i, i < 8 → S[24 + i]? = some (vb (up i))
  pure : Pures S

theorem Pures.sub {xs ys : List PV} (h : Pures xs) (hs : ∀ p, p ∈ ys → p ∈ xs) : Pures ys := Pures_iff.2 fun p hp => Pures_iff.1 h p (hs p hp)

theorem Pures.part {xs : List PV} (h : Pures xs) (a n : Nat) : Pures ((xs.drop a).take n) := h.sub fun _ hp => List.mem_of_mem_drop (List.mem_of_mem_take hp)

theorem IsPl.roB {S : List PV} {W : Nat → Int} {R ro up : Nat → Bool} (h : IsPl S W R ro up) : IsB ((S.drop 16).take 8) ro where
  len := by simp [h.len]
  get := fun i hi => by rw [List.getElem?_take, if_pos hi, List.getElem?_drop]; exact h.ro i hi
  pure := h.pure.part 16 8

theorem IsPl.upB {S : List PV} {W : Nat → Int} {R ro up : Nat → Bool} (h : IsPl S W R ro up) : IsB ((S.drop 24).take 8) up where
  len := by simp [h.len]
  get := fun i hi => by rw [List.getElem?_take, if_pos hi, List.getElem?_drop]; exact h.up i hi
  pure := h.pure.part 24 8

def modW (x : Int) : Int := IntKind.i64.wrap ((IntKind.u64.wrap x).tmod 5)

theorem modW_bd (x : Int) : 0 ≤ modW x ∧ modW x ≤ 4 := by
  have h : 0 ≤ IntKind.u64.wrap x := by
    have e : IntKind.u64.wrap x = if (false && decide (x % 18446744073709551616 ≥ 9223372036854775808)) = true then x % 18446744073709551616 - 18446744073709551616 else x % 18446744073709551616 := rfl
    rw [e, if_neg (by simp)]; omega
  have h2 : (IntKind.u64.wrap x).tmod 5 = IntKind.u64.wrap x % 5 := Int.tmod_eq_emod_of_nonneg h
  unfold modW
  rw [h2, wrap_in _ (by omega)]
  omega

def stC (S : List PV) (z : List PV) : List PV := splice (splice z 10 ((S.drop 0).take 8)) 18 ((S.drop 8).take 8)
def stTo (S z : List PV) (W : Nat → Int) : Nat → List PV
  | 0 => stC S z
  | i + 1 => splice (stTo S z W i) (10 + i) [vi .i64 (modW (W i))]

def zSt : List PV := (List.replicate 8 (vi .u32 0)) ++ [.tr 0 [] .full, .tr 0 [] .full] ++ (List.replicate 8 (vi .i64 0)) ++ (List.replicate 8 (vb false))

theorem stC_is {S : List PV} {W : Nat → Int} {R ro up : Nat → Bool} (h : IsPl S W R ro up) : IsSt (stC S zSt) W R := by
  have l1 : ((S.drop 0).take 8).length = 8 := by simp [h.len]
  have l2 : ((S.drop 8).take 8).length = 8 := by simp [h.len]
  have lz : zSt.length = 26 := rfl
  have l3 : (splice zSt 10 ((S.drop 0).take 8)).length = 26 := by rw [splice_length _ _ _ (by rw [l1, lz]; decide)]; exact lz
  refine ⟨?_, fun i hi => ?_, fun i hi => ?_, ?_⟩
  · unfold stC; rw [splice_length _ _ _ (by rw [l2, l3]; decide)]; exact l3
  · unfold stC
    rw [splice_get _ _ _ _ (by rw [l2, l3]; decide), if_neg (by omega), splice_get _ _ _ _ (by rw [l1, lz]; decide), if_pos (by omega)]
    rw [show 10 + i - 10 = i from by omega, List.getElem?_take, if_pos hi]; simpa using h.w i hi
  · unfold stC
    rw [splice_get _ _ _ _ (by rw [l2, l3]; decide), if_pos (by omega)]
    rw [show 18 + i - 18 = i from by omega, List.getElem?_take, if_pos hi, List.getElem?_drop]; exact h.r i hi
  · have hz : Pures zSt := by simp [zSt, Pures, Pure, Pures_iff, Tail.isTok]
    unfold stC
    refine Pures_iff.2 fun p hp => ?_
    simp only [splice, List.mem_append] at hp
    have hs := Pures_iff.1 h.pure
    have hz' := Pures_iff.1 hz
    rcases hp with (hp | hp) | hp
    · have := List.mem_of_mem_take hp
      simp only [List.mem_append] at this
      rcases this with (h1 | h1) | h1
      · exact hz' p (List.mem_of_mem_take h1)
      · exact hs p (List.mem_of_mem_drop (List.mem_of_mem_take h1))
      · exact hz' p (List.mem_of_mem_drop h1)
    · exact hs p (List.mem_of_mem_drop (List.mem_of_mem_take hp))
    · have := List.mem_of_mem_drop hp
      simp only [List.mem_append] at this
      rcases this with (h1 | h1) | h1
      · exact hz' p (List.mem_of_mem_take h1)
      · exact hs p (List.mem_of_mem_drop (List.mem_of_mem_take h1))
      · exact hz' p (List.mem_of_mem_drop h1)

theorem IsSt.setW {S : List PV} {W : Nat → Int} {R : Nat → Bool} (h : IsSt S W R) {i : Nat} (hi : i < 8) (x : Int) : IsSt (splice S (10 + i) [vi .i64 x]) (fun j => if j = i then x else W j) R where
  len := by rw [splice_length _ _ _ (by simp [h.len]; omega), h.len]
  w := fun j hj => by
    rw [splice_get _ _ _ _ (by simp [h.len]; omega)]
    by_cases e : j = i
    · subst e; rw [if_pos (by simp), if_pos rfl]; simp
    · rw [if_neg (by simp; omega), if_neg e]; exact h.w j hj
  r := fun j hj => by
    rw [splice_get _ _ _ _ (by simp [h.len]; omega), if_neg (by simp; omega)]; exact h.r j hj
  pure := by
    refine Pures_iff.2 fun p hp => ?_
    simp only [splice, List.mem_append] at hp
    have hs := Pures_iff.1 h.pure
    rcases hp with (hp | hp) | hp
    · exact hs p (List.mem_of_mem_take hp)
    · simp at hp; subst hp; trivial
    · exact hs p (List.mem_of_mem_drop hp)

theorem IsSt.congr {S : List PV} {W W' : Nat → Int} {R : Nat → Bool} (h : IsSt S W R) (e : ∀ i, i < 8 → W i = W' i) : IsSt S W' R :=
  ⟨h.len, fun i hi => by rw [← e i hi]; exact h.w i hi, h.r, h.pure⟩

theorem stTo_is {S : List PV} {W : Nat → Int} {R ro up : Nat → Bool} (h : IsPl S W R ro up) : ∀ i, i ≤ 8 → IsSt (stTo S zSt W i) (fun j => if j < i then modW (W j) else W j) R
  | 0, _ => (stC_is h).congr fun j _ => by simp
  | i + 1, hi => ((stTo_is h i (by omega)).setW (by omega) (modW (W i))).congr fun j _ => by
    by_cases e : j = i
    · subst e; simp
    · by_cases h1 : j < i
      · simp [e, h1, Nat.lt_succ_of_lt h1]
      · simp [e, h1, show ¬ j < i + 1 by omega]

/-- the law's state -/
def wm (W : Nat → Int) : Nat → Int := fun j => modW (W j)
theorem stEnd_is {S : List PV} {W : Nat → Int} {R ro up : Nat → Bool} (h : IsPl S W R ro up) : IsSt (stTo S zSt W 8) (wm W) R :=
  (stTo_is h 8 (Nat.le_refl _)).congr fun j hj => by simp [hj, wm]
theorem wm_bd (W : Nat → Int) : ∀ i, i < 8 → 0 ≤ wm W i ∧ wm W i ≤ 4 := fun i _ => modW_bd (W i)

def liveW : Nat → Int := fun i => [1, 1, 2, 2, 0, 0, 0, 0].getD i 0
def liveU : Nat → Bool := fun i => [true, true, true, true, false, false, false, false].getD i false
theorem live_is : IsSt [vi .u32 0, vi .u32 0, vi .u32 0, vi .u32 0, vi .u32 0, vi .u32 0, vi .u32 0, vi .u32 0, .tr 0 [] .full, .tr 0 [] .full, vi .i64 1, vi .i64 1, vi .i64 2, vi .i64 2, vi .i64 0, vi .i64 0, vi .i64 0, vi .i64 0,
    vb false, vb false, vb false, vb false, vb false, vb false, vb false, vb false] liveW (fun _ => false) where
  len := rfl
  w := fun i hi => by match i, hi with | 0, _ => rfl | 1, _ => rfl | 2, _ => rfl | 3, _ => rfl | 4, _ => rfl | 5, _ => rfl | 6, _ => rfl | 7, _ => rfl
  r := fun i hi => by match i, hi with | 0, _ => rfl | 1, _ => rfl | 2, _ => rfl | 3, _ => rfl | 4, _ => rfl | 5, _ => rfl | 6, _ => rfl | 7, _ => rfl
  pure := by simp [Pures, Pure, Tail.isTok]
theorem live_up : IsB [vb true, vb true, vb true, vb true, vb false, vb false, vb false, vb false] liveU where
  len := rfl
  get := fun i hi => by match i, hi with | 0, _ => rfl | 1, _ => rfl | 2, _ => rfl | 3, _ => rfl | 4, _ => rfl | 5, _ => rfl | 6, _ => rfl | 7, _ => rfl
  pure := by simp [Pures, Pure]
theorem live_bd : ∀ i, i < 8 → 0 ≤ liveW i ∧ liveW i ≤ 4 := fun i hi => by
  match i, hi with | 0, _ => exact ⟨by decide, by decide⟩ | 1, _ => exact ⟨by decide, by decide⟩ | 2, _ => exact ⟨by decide, by decide⟩ | 3, _ => exact ⟨by decide, by decide⟩ | 4, _ => exact ⟨by decide, by decide⟩ | 5, _ => exact ⟨by decide, by decide⟩ | 6, _ => exact ⟨by decide, by decide⟩ | 7, _ => exact ⟨by decide, by decide⟩

theorem firstF_mem {up : Nat → Bool} : ∀ {l : List Int}, firstF l up ≠ 0 → firstF l up ∈ l ∧ up (firstF l up - 1).toNat = true
  | [], h => absurd rfl h
  | m :: l, h => by
    rw [firstF_cons] at h ⊢
    split
    · rename_i hu; exact ⟨by simp, hu⟩
    · rename_i hu
      rw [if_neg hu] at h
      obtain ⟨h1, h2⟩ := firstF_mem h
      exact ⟨by simp [h1], h2⟩

theorem ring_ne {W : Nat → Int} {R ro : Nat → Bool} {rep m : Int} (h : m ∈ ringF W R ro rep) : m ≠ rep ∧ m ∈ membersF W R ro (ofF W rep) := by
  unfold ringF at h
  rcases List.mem_append.1 h with h | h <;> obtain ⟨h1, h2⟩ := List.mem_filter.1 h <;> simp at h2
  · exact ⟨by omega, h1⟩
  · exact ⟨by omega, h1⟩

theorem mem_here {W : Nat → Int} {R ro : Nat → Bool} {w m : Int} (h : m ∈ membersF W R ro w) : 1 ≤ m ∧ m ≤ 8 ∧ ro (m - 1).toNat = true ∧ R (m - 1).toNat = false ∧ ofF W m = w := by
  obtain ⟨_, h2, h3⟩ := mem_memTo.1 h
  obtain ⟨h4, h5, h6, h7⟩ := here_bd h2
  exact ⟨h4, h5, h6, h7, h3⟩

theorem beyL_mem {W : Nat → Int} {R ro up : Nat → Bool} {w : Int} : ∀ (n : Nat) (i : Int), beyL W R ro up w n i ≠ 0 → ∃ j : Int, i ≤ j ∧ j < i + n ∧ beyL W R ro up w n i = masterF W R ro up ((w + j).tmod 5)
  | 0, i, h => absurd rfl h
  | n + 1, i, h => by
    simp only [beyL] at h ⊢
    split
    · exact ⟨i, by omega, by omega, rfl⟩
    · rename_i h0
      rw [if_neg h0] at h
      obtain ⟨j, h1, h2, h3⟩ := beyL_mem n (i + 1) h
      exact ⟨j, by omega, by omega, h3⟩

theorem next_props {W : Nat → Int} {R ro up : Nat → Bool} {rep : Int} (h : nextF W R ro up rep ≠ 0) : nextF W R ro up rep ≠ rep ∧ nextF W R ro up rep ∈ membersF W R ro (ofF W rep) ∧ up (nextF W R ro up rep - 1).toNat = true := by
  obtain ⟨h1, h2⟩ := firstF_mem h
  exact ⟨(ring_ne h1).1, (ring_ne h1).2, h2⟩

theorem whom_fair {W : Nat → Int} {R ro up : Nat → Bool} {rep time : Int} (hz : ¬ whomF (wm W) R ro up rep time = 0) :
    1 ≤ whomF (wm W) R ro up rep time ∧ whomF (wm W) R ro up rep time ≤ 8 ∧ 1 ≤ rep ∧ rep ≤ 8 ∧ whomF (wm W) R ro up rep time ≠ rep ∧ up (whomF (wm W) R ro up rep time - 1).toNat = true ∧
      R (whomF (wm W) R ro up rep time - 1).toNat = false ∧ ro (whomF (wm W) R ro up rep time - 1).toNat = true ∧ ro (rep - 1).toNat = true ∧ R (rep - 1).toNat = false := by
  have hh : hereF R ro rep = true := by
    cases hx : hereF R ro rep with
    | true => rfl
    | false => exfalso; apply hz; unfold whomF; rw [if_pos hx]
  obtain ⟨g1, g2, g3, g4⟩ := here_bd hh
  have key : ∀ v, v = whomF (wm W) R ro up rep time → v ≠ 0 → (∃ w, v ∈ membersF (wm W) R ro w) ∧ v ≠ rep ∧ up (v - 1).toNat = true := by
    intro v hv h0
    unfold whomF at hv
    rw [if_neg (by rw [hh]; simp)] at hv
    have hn : v = nextF (wm W) R ro up rep → (∃ w, v ∈ membersF (wm W) R ro w) ∧ v ≠ rep ∧ up (v - 1).toNat = true := by
      intro e
      rw [e] at h0 ⊢
      obtain ⟨a, b, c⟩ := next_props h0
      exact ⟨⟨_, b⟩, a, c⟩
    split at hv
    · exact hn hv
    · split at hv
      · rw [hv] at h0 ⊢
        obtain ⟨j, hj1, hj2, hj⟩ := beyL_mem 4 1 h0
        unfold beyondF
        rw [hj]
        have h0' : masterF (wm W) R ro up ((ofF (wm W) rep + j).tmod 5) ≠ 0 := by rw [← hj]; exact h0
        obtain ⟨a, b⟩ := firstF_mem h0'
        refine ⟨⟨_, a⟩, fun e => ?_, b⟩
        have hm := (mem_here a).2.2.2.2
        rw [show firstF (membersF (wm W) R ro ((ofF (wm W) rep + j).tmod 5)) up = rep from e] at hm
        have hb := of_bd (wm_bd W) rep
        have : (ofF (wm W) rep + j).tmod 5 = (ofF (wm W) rep + j) % 5 := Int.tmod_eq_emod_of_nonneg (by omega)
        omega
      · exact hn hv
  obtain ⟨⟨w, hm⟩, hne, hu⟩ := key _ rfl hz
  obtain ⟨m1, m2, m3, m4, _⟩ := mem_here hm
  exact ⟨m1, m2, g1, g2, hne, hu, m4, m3, g3, g4⟩

end Go.Ab
