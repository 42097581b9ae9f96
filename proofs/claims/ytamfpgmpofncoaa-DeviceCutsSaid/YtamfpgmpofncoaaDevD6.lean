import Derived.Test.YtamfpgmpofncoaaDevAto6
/- Devices: the change at which a cut is planned. -/
set_option maxRecDepth 100000
set_option linter.unusedSimpArgs false
set_option linter.unusedVariables false
namespace Go.Proofs.Ytamfpgmpofncoaa
open Go.Tm Go.Ab

/-- so many changes ahead of the cut -/
def leftAt (after : Int) (i : Nat) : Int := if (i : Int) ≤ after then after - i else -1

structure CutInv (after : Int) (i : Nat) (x : DevT) : Prop where
  d : OkD x.1 x.2.2.2.2.2
  l : x.1.length ≤ i
  left : x.2.1 = leftAt after i
  c : x.2.2.1.1.length < 1000000
  n : x.2.2.2.1 = i
  off : x.2.2.2.2.1 = false
  s : x.2.2.2.2.2.length = 4

theorem CutInv.ok {after : Int} {i : Nat} {x : DevT} (h : CutInv after i x) (hi : i ≤ 1000) (ha : after ≤ 9223372036854775807) : OkDev x :=
  ⟨h.d, by have := h.l; omega, by rw [h.left]; unfold leftAt; split <;> omega, h.c, by rw [h.n]; omega, by rw [h.s]; omega⟩

theorem cutS_okD {c : List Int × Int × Int} : ∀ (l : List (Int × List Int)) (k : Nat) (s : List (List Int)), OkD l s → ∀ y, y ∈ cutS c l k s → y.length = 256
  | [], _, _, ok => ok.s
  | w :: ws, k, s, ok => by
    have hw := ok.w w (by simp)
    have ht := tornN_in c k
    exact cutS_okD ws (k + 1) _ ⟨putS_ok ok.s hw.1 hw.2.1 hw.2.2 (by omega), fun v hv => by rw [putS_len]; exact ok.w v (by simp [hv])⟩

theorem change_inv {after : Int} {i : Nat} {x : DevT} (hd : OkD x.1 x.2.2.2.2.2) (hl : x.1.length ≤ i + 1) (hle : x.2.1 = leftAt after i) (hc : x.2.2.1.1.length < 1000000) (hn : x.2.2.2.1 = i) (ho : x.2.2.2.2.1 = false) (hs : x.2.2.2.2.2.length = 4) :
    (changeD x).1 = (if (i : Int) = after then 6 else 0) ∧ (changeD x).2.2.2.2.2.1 = decide ((i : Int) = after) ∧ CutInv after (i + 1) (onD (changeD x).2) := by
  obtain ⟨l, d2, d3, d4, off, s⟩ := x
  simp only at hd hl hle hc hn ho hs
  subst ho; subst hn; subst hle
  unfold changeD leftAt
  by_cases h1 : (i : Int) ≤ after
  · rw [if_pos h1]
    simp only
    rw [if_neg (show ¬ after - (i : Int) < 0 by omega)]
    by_cases h2 : (i : Int) = after
    · rw [if_pos (show after - (i : Int) = 0 by omega), if_pos h2]
      refine ⟨rfl, by simp [cutD, h2], ?_⟩
      simp only [cutD, Bool.false_eq_true, if_false, onD]
      exact ⟨⟨cutS_okD _ _ _ hd, fun w hw => by cases hw⟩, Nat.zero_le _, by unfold leftAt; rw [if_neg (by omega)], hc, by simp, rfl, by simp only [cutS_len]; exact hs⟩
    · rw [if_neg (show ¬ after - (i : Int) = 0 by omega), if_neg h2]
      refine ⟨rfl, by simp [h2], ?_⟩
      exact ⟨hd, hl, by simp only [onD]; unfold leftAt; rw [if_pos (by omega)]; simp; omega, hc, by simp [onD], rfl, hs⟩
  · rw [if_neg h1]
    simp only
    rw [if_pos (show (-1 : Int) < 0 by omega), if_neg (show ¬ (i : Int) = after by omega)]
    refine ⟨rfl, by simp; omega, ?_⟩
    exact ⟨hd, hl, by simp only [onD]; unfold leftAt; rw [if_neg (by omega)], hc, by simp [onD], rfl, hs⟩

theorem barrier_inv {after : Int} {i : Nat} {x : DevT} (h : CutInv after i x) :
    (barrierD x).1 = (if (i : Int) = after then 6 else 0) ∧ (barrierD x).2.2.2.2.2.1 = decide ((i : Int) = after) ∧ CutInv after (i + 1) (onD (barrierD x).2) := by
  obtain ⟨e1, e2, e3⟩ := change_inv h.d (by have := h.l; omega) h.left h.c h.n h.off h.s
  unfold barrierD
  rw [h.off, if_neg (by simp)]
  by_cases h0 : (i : Int) = after
  · rw [if_pos h0] at e1 ⊢
    rw [if_pos (by rw [e1]; omega)]
    exact ⟨e1, e2, e3⟩
  · rw [if_neg h0] at e1 ⊢
    rw [if_neg (by rw [e1]; simp)]
    refine ⟨rfl, e2, ?_⟩
    exact ⟨⟨sureS_okD _ _ e3.d, fun w hw => by cases hw⟩, Nat.zero_le _, e3.left, e3.c, e3.n, rfl, by simp only [onD, sureS_len]; exact e3.s⟩

theorem write_inv {after : Int} {i : Nat} {x : DevT} (h : CutInv after i x) {at' : Int} (ha : 0 ≤ at' ∧ at' < 4) {b : List Int} (hb : b.length = 256) :
    (writeD x at' b).1 = (if (i : Int) = after then 6 else 0) ∧ (writeD x at' b).2.2.2.2.2.1 = decide ((i : Int) = after) ∧ CutInv after (i + 1) (onD (writeD x at' b).2) := by
  have hw : whyS x.2.2.2.2.1 x.2.2.2.2.2.length at' = 0 := by unfold whyS; rw [h.off, h.s, if_neg (by simp), if_pos (by omega)]
  unfold writeD
  rw [hw, if_neg (by simp), if_neg (by simpa using hb)]
  have hd : OkD (x.1 ++ [(at', b)]) x.2.2.2.2.2 := ⟨h.d.s, fun w hm => by
    rcases List.mem_append.1 hm with hm | hm
    · exact h.d.w w hm
    · simp only [List.mem_singleton] at hm; subst hm; exact ⟨ha.1, by rw [h.s]; omega, hb⟩⟩
  exact change_inv (x := (x.1 ++ [(at', b)], x.2)) hd (by simp; exact h.l) h.left h.c h.n h.off h.s

theorem cuts_step {after n : Int} {i : Nat} {x : DevT} (h : CutInv after i x) (hi : (i : Int) < n) (hn : n ≤ 40) (ha : after ≤ 9223372036854775807) :
    ∃ y : DevT, CutInv after (i + 1) y ∧ law03_DeviceCuts_l1_1_1_1_0_1_0n2g (after, n, n, (i : Int), x) = some (.inl (after, n, n, ((i + 1 : Nat) : Int), y)) := by
  have ok := h.ok (by omega) ha
  show ∃ y : DevT, CutInv after (i + 1) y ∧ law03_DeviceCuts_l1_1_1_1_0_1_0n2r after n n (i : Int) x.1 x.2.1 x.2.2.1 x.2.2.2.1 x.2.2.2.2.1 x.2.2.2.2.2 = _
  unfold law03_DeviceCuts_l1_1_1_1_0_1_0n2r
  rw [ltI_t hi]
  by_cases hm : (i : Int).tmod 3 = 2
  · obtain ⟨h1, h2, h3⟩ := barrier_inv h
    rw [eqI_t hm, barrier_x x ok]
    generalize barrierD x = r at *
    refine ⟨onD r.2, h3, ?_⟩
    simp only [cond_true, cond_false, Option.bind_some, beq_self]
    by_cases h0 : (i : Int) = after
    · rw [if_pos h0] at h1
      simp only [h1, h0, eqI_t rfl, neI_f rfl, eqI_f (show ¬ (6 : Int) = 0 by decide), beq_self_eq_true, Bool.not_true, cond_false]
      rw [win_all _ _ rfl, off_x r.2, on_x r.2, h2, ← h0, W64_in (by omega)]
      simp [onD, eqI]
    · rw [if_neg h0] at h1
      simp only [h1, eqI_f h0, neI_t h0, eqI_t rfl, eqI_f (show ¬ (0 : Int) = 6 by decide), beq_self_eq_true, Bool.not_true, cond_false]
      rw [win_all _ _ rfl, off_x r.2, on_x r.2, h2, W64_in (by omega)]
      simp [onD, h0]
  · have h4 : 0 ≤ (i : Int).tmod 4 ∧ (i : Int).tmod 4 < 4 := by
      rw [Int.tmod_eq_emod_of_nonneg (by omega)]; omega
    obtain ⟨h1, h2, h3⟩ := write_inv h h4 (fullS_len (WU8 i) [])
    rw [eqI_f hm, full_is]
    simp only [Option.bind_some]
    rw [write_y _ _ x ok (by rw [fullS_len]; omega)]
    generalize writeD x ((i : Int).tmod 4) (fullS (WU8 i) []) = r at *
    refine ⟨onD r.2, h3, ?_⟩
    simp only [cond_true, cond_false, Option.bind_some, beq_self]
    by_cases h0 : (i : Int) = after
    · rw [if_pos h0] at h1
      simp only [h1, h0, eqI_t rfl, neI_f rfl, eqI_f (show ¬ (6 : Int) = 0 by decide), beq_self_eq_true, Bool.not_true, cond_false]
      rw [win_all _ _ rfl, off_x r.2, on_x r.2, h2, ← h0, W64_in (by omega)]
      simp [onD, eqI]
    · rw [if_neg h0] at h1
      simp only [h1, eqI_f h0, neI_t h0, eqI_t rfl, eqI_f (show ¬ (0 : Int) = 6 by decide), beq_self_eq_true, Bool.not_true, cond_false]
      rw [win_all _ _ rfl, off_x r.2, on_x r.2, h2, W64_in (by omega)]
      simp [onD, h0]

theorem cuts_loop {after n : Int} (h0 : 0 ≤ n) (hn : n ≤ 40) (ha : after ≤ 9223372036854775807) {x : DevT} (h : CutInv after 0 x) :
    ∃ y : DevT, y.2.2.2.1 = n ∧ loopC law03_DeviceCuts_l1_1_1_1_0_1_0n2g (after, n, n, 0, x) = some (.inl (n, y)) := by
  have hlast : ∀ s, (∃ x : DevT, CutInv after n.toNat x ∧ s = (after, n, n, ((n.toNat : Nat) : Int), x)) → ∃ r, law03_DeviceCuts_l1_1_1_1_0_1_0n2g s = some (.inr r) ∧ ∃ y : DevT, y.2.2.2.1 = n ∧ r = .inl (n, y) := by
    rintro s ⟨x, hx, rfl⟩
    refine ⟨_, ?_, x, by rw [hx.n]; omega, rfl⟩
    show law03_DeviceCuts_l1_1_1_1_0_1_0n2r after n n _ x.1 x.2.1 x.2.2.1 x.2.2.2.1 x.2.2.2.2.1 x.2.2.2.2.2 = _
    unfold law03_DeviceCuts_l1_1_1_1_0_1_0n2r
    rw [ltI_f (by simp only; omega), beq_self]; rfl
  obtain ⟨r, h1, y, h2, h3⟩ := loop_inv law03_DeviceCuts_l1_1_1_1_0_1_0n2g n.toNat (fun i s => ∃ x : DevT, CutInv after i x ∧ s = (after, n, n, (i : Int), x)) (fun r => ∃ y : DevT, y.2.2.2.1 = n ∧ r = .inl (n, y)) hlast
    (fun i s hi hx => by
      obtain ⟨x, hx, rfl⟩ := hx
      obtain ⟨y, h1, h2⟩ := cuts_step hx (by omega) hn ha
      exact .inl ⟨_, h2, y, h1, rfl⟩) ⟨x, h, rfl⟩
  exact ⟨y, h2, by rw [← h3]; exact h1⟩

theorem clone_is (l : List Int) (h : l.length < 1000000) : slices_Clone l = some l := by
  unfold slices_Clone
  have : (nilK l.length fun q => bif q then some ([] : List Int) else appG (List.length ([] : List Int)) (List.length l) 8 fun _ => some (([] : List Int) ++ l)) = some l := by
    rw [nil_same]
    · rw [cond_false, app_ok (by simp; omega)]; rfl
    · intro h0
      rw [cond_true, cond_false, app_ok (by simp; omega), List.eq_nil_of_length_eq_zero h0]; rfl
  exact this

theorem cuts_true (after n : Int) (c : List Int × Int × Int) (ha : -9223372036854775808 ≤ after ∧ after ≤ 9223372036854775807) (hc : c.1.length ≤ 9223372036854775807) : law03_DeviceCuts after n c = some true := by
  unfold law03_DeviceCuts
  rw [lives_is]
  simp only [Option.bind_some, Bool.not_true, cond_false]
  by_cases h1 : n < 0
  · rw [ltI_t h1]; rfl
  rw [ltI_f h1]
  by_cases h2 : 40 < n
  · rw [ltI_t h2]; rfl
  rw [ltI_f h2, short_ok hc]
  by_cases h3 : 70 < c.1.length
  · rw [ltI_t (by omega)]; rfl
  rw [ltI_f (by omega), new_is 4 (by omega)]
  simp only [Option.bind_some, cond_false, Sum.elim_inr, beq_self, cond_true]
  have hp : device_Device_Plan_2 after c (newD 4).1 (newD 4).2.1 (newD 4).2.2.1 (newD 4).2.2.2.1 (newD 4).2.2.2.2.1 (newD 4).2.2.2.2.2 = some ((newD 4).1, maxI after (-1), c, (newD 4).2.2.2.1, (newD 4).2.2.2.2.1, (newD 4).2.2.2.2.2) := by
    unfold device_Device_Plan_2
    rw [clone_is _ (by omega)]
    simp only [Option.bind_some, beq_self, cond_true]
  rw [show (4 : Int).toNat = 4 from rfl, hp]
  simp only [Option.bind_some, beq_self, cond_true]
  have ok := (Fine.new 4)
  obtain ⟨y, h4, h5⟩ := cuts_loop (after := after) (n := n) (x := ((newD 4).1, maxI after (-1), c, (newD 4).2.2.2.1, (newD 4).2.2.2.2.1, (newD 4).2.2.2.2.2)) (by omega) (by omega) ha.2
    ⟨ok.d, Nat.zero_le _, by unfold leftAt maxI; simp only; split <;> split <;> omega, by simp only; omega, rfl, rfl, ok.s⟩
  rw [h5]
  simp only [Option.bind_some, Sum.elim_inl]
  rw [win_all _ _ rfl]
  show (some y.2.2.2.1).bind _ = _
  rw [h4]
  exact congrArg some (eqI_t rfl)

end Go.Proofs.Ytamfpgmpofncoaa
