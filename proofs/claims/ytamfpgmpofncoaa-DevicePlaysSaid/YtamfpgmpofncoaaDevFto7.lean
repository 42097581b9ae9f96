import Derived.Test.YtamfpgmpofncoaaDevAto
import Derived.Test.YtamfpgmpofncoaaDevA7
/- The document's devices: what the functions come to. -/
set_option maxRecDepth 100000
set_option linter.unusedSimpArgs false
set_option linter.unusedVariables false
namespace Go.Proofs.Ytamfpgmpofncoaa
open Go.Tm Go.Ab

abbrev RefT := List (List Int) × List (Int × List Int) × Int × (List Int × Int × Int) × Int × Bool

theorem rwhy_is (d : RefT) (i : Int) (h : d.1.length < 1000000) : ref03_Why d i = some (whyS d.2.2.2.2.2 d.1.length i) := by
  unfold ref03_Why whyS
  cases d.2.2.2.2.2 with
  | true => rfl
  | false =>
    simp only [cond_false, Bool.false_eq_true, if_false]
    by_cases h0 : i < 0
    · rw [ltI_t h0, if_neg (by omega)]; rfl
    · rw [ltI_f h0, short_ok (by omega)]
      by_cases h1 : i < d.1.length
      · rw [leI_f (by omega), if_pos (by omega)]; rfl
      · rw [leI_t (by omega), if_neg (by omega)]; rfl

theorem rin_loop (l : List Int) (n : Int) (hl : l.length < 1000000) : ∀ (k i : Nat), i + k = l.length → loopC ref03_in_l1_0_1_0g (l, n, (i : Int)) = some (if n ∈ l.drop i then .inr true else .inl ())
  | 0, i, h => by
    rw [loopC_eq, show ref03_in_l1_0_1_0g (l, n, (i : Int)) = ref03_in_l1_0_1_0r l n (i : Int) from rfl]
    unfold ref03_in_l1_0_1_0r
    rw [short_ok (by omega), ltI_f (by omega), List.drop_eq_nil_of_le (by omega), if_neg (by simp)]
    rfl
  | k + 1, i, h => by
    have hi : i < l.length := by omega
    rw [loopC_eq, show ref03_in_l1_0_1_0g (l, n, (i : Int)) = ref03_in_l1_0_1_0r l n (i : Int) from rfl]
    unfold ref03_in_l1_0_1_0r
    rw [short_ok (by omega), ltI_t (by omega), idx_in hi, List.drop_eq_getElem_cons hi]
    simp only [Option.bind_some, cond_true]
    by_cases hx : l[i] = n
    · rw [eqI_t hx, if_pos (by rw [hx]; simp)]; rfl
    · rw [eqI_f hx]
      simp only [cond_false, Option.bind_some, Sum.elim_inl]
      rw [W64_in (by omega), show ((i : Int) + 1) = ((i + 1 : Nat) : Int) by simp, rin_loop l n hl k (i + 1) (by omega)]
      have : (n ∈ l[i] :: l.drop (i + 1)) = (n ∈ l.drop (i + 1)) := by
        rw [List.mem_cons]; simp; intro e; exact absurd e.symm hx
      simp only [this]

theorem rin_is (l : List Int) (n : Int) (hl : l.length < 1000000) : ref03_in l n = some (decide (n ∈ l)) := by
  unfold ref03_in
  have := rin_loop l n hl l.length 0 (by omega)
  rw [show ((0 : Nat) : Int) = 0 from rfl] at this
  rw [this, List.drop_zero]
  by_cases h : n ∈ l
  · rw [if_pos h]; simp [h]
  · rw [if_neg h]; simp [h]

theorem rwith_is (l : List (List Int)) (i : Int) (s : List Int) (hl : l.length < 1000000) (hi : 0 ≤ i ∧ i < l.length) : ref03_with l i s = some (l.set i.toNat s) := by
  unfold ref03_with
  rw [app_ok (by simp; omega), inI_t hi, List.getElem?_eq_getElem (show i.toNat < l.length by omega)]
  simp only [cond_true, Option.bind_some]
  rw [win_all _ _ (by rw [List.length_set])]

theorem rcut_loop (d : RefT) (c : List Int × Int × Int) (t : RefT) (hl : d.2.1.length < 1000000) (hc : c.1.length < 1000000) :
    ∀ (k i : Nat) (s : List (List Int)), i + k = d.2.1.length → OkD d.2.1 s → s.length < 1000000 →
      loopC ref03_Cut_l1_1_0_1_0g ((i : Int), (s, d.2), c, t) = some ((cutS c (d.2.1.drop i) i s, d.2), t)
  | 0, i, s, h, ok, hs => by
    rw [loopC_eq, show ref03_Cut_l1_1_0_1_0g ((i : Int), (s, d.2), c, t) = ref03_Cut_l1_1_0_1_0r (i : Int) (s, d.2) c t from rfl]
    unfold ref03_Cut_l1_1_0_1_0r
    rw [short_ok (by simp only; omega), ltI_f (by simp only; omega), List.drop_eq_nil_of_le (by omega)]
    rfl
  | k + 1, i, s, h, ok, hs => by
    have hi : i < d.2.1.length := by omega
    have hw := ok.w _ (List.getElem_mem hi)
    have hlt : d.2.1[i].1.toNat < s.length := by omega
    have hsl := ok.s _ (List.getElem_mem hlt)
    have ht := tornN_in c i
    rw [loopC_eq, show ref03_Cut_l1_1_0_1_0g ((i : Int), (s, d.2), c, t) = ref03_Cut_l1_1_0_1_0r (i : Int) (s, d.2) c t from rfl]
    unfold ref03_Cut_l1_1_0_1_0r
    rw [short_ok (by simp only; omega), ltI_t (by simp only; omega), idx_in (l := (s, d.2).2.1) hi, List.drop_eq_getElem_cons hi]
    simp only [Option.bind_some, cond_true]
    generalize d.2.1[i] = w at hw hlt hsl ⊢
    have hj : ((bif eqI c.2.1 (i : Int) then some ((i : Int), maxI 0 (minI c.2.2 256), (s, d.2), c, t, w) else some ((i : Int), (0 : Int), (s, d.2), c, t, w)).bind fun j =>
        (ref03_in j.2.2.2.1.1 j.1).bind fun r =>
        bif r then
        some (j.1, (256 : Int), j.2.2.1, j.2.2.2.1, j.2.2.2.2.1, j.2.2.2.2.2)
        else
        some (j.1, j.2.1, j.2.2.1, j.2.2.2.1, j.2.2.2.2.1, j.2.2.2.2.2)) = some ((i : Int), tornN c i, (s, d.2), c, t, w) := by
      unfold tornN
      by_cases h1 : (i : Int) ∈ c.1
      · by_cases h2 : c.2.1 = (i : Int)
        · rw [eqI_t h2]; simp only [cond_true, Option.bind_some]; rw [rin_is _ _ hc]; simp [h1]
        · rw [eqI_f h2]; simp only [cond_false, Option.bind_some]; rw [rin_is _ _ hc]; simp [h1]
      · by_cases h2 : c.2.1 = (i : Int)
        · rw [eqI_t h2]; simp only [cond_true, Option.bind_some]; rw [rin_is _ _ hc]; simp [h1, h2]
        · rw [eqI_f h2]; simp only [cond_false, Option.bind_some]; rw [rin_is _ _ hc]; simp [h1, h2]
    rw [← Option.bind_assoc, hj]
    simp only [Option.bind_some]
    have e1 : subL w.2 0 (tornN c i) = w.2.take (tornN c i).toNat := by simp [subL]
    have e2 : subL s[w.1.toNat] (tornN c i) (s[w.1.toNat].length : Nat) = s[w.1.toNat].drop (tornN c i).toNat := by
      unfold subL
      rw [Int.toNat_natCast, List.take_of_length_le (by simp)]
    rw [sub_ok (by omega), show w.1 = ((w.1.toNat : Nat) : Int) by omega, idx_in hlt]
    simp only [cond_true, Option.bind_some]
    rw [sub_ok (by omega), e1, e2]
    simp only [cond_true]
    rw [cat_ok (by simp; omega), rwith_is _ _ _ hs (by omega)]
    simp only [Option.bind_some, Int.toNat_natCast]
    have hput : s.set w.1.toNat (w.2.take (tornN c i).toNat ++ s[w.1.toNat].drop (tornN c i).toNat) = putS s w (tornN c i).toNat := by
      unfold putS; rw [List.getElem?_eq_getElem hlt, Option.getD_some]
    rw [hput, W64_in (by omega), show ((i : Int) + 1) = ((i + 1 : Nat) : Int) by simp]
    have ih := rcut_loop d c t hl hc k (i + 1) (putS s w (tornN c i).toNat) (by omega) ⟨putS_ok ok.s hw.1 hw.2.1 hw.2.2 (by omega), fun w hm => by rw [putS_len]; exact ok.w w hm⟩ (by rw [putS_len]; exact hs)
    simp only [Sum.elim_inl]
    rw [ih]
    rfl

theorem rcut_is (d : RefT) (c : List Int × Int × Int) (hl : d.2.1.length < 1000000) (hc : c.1.length < 1000000) (ok : OkD d.2.1 d.1) (hs : d.1.length < 1000000) :
    ref03_Cut d c = some (if d.2.2.2.2.2 then d else (cutS c d.2.1 0 d.1, [], -1, ([], 0, 0), d.2.2.2.2.1, true)) := by
  unfold ref03_Cut
  cases hd : d.2.2.2.2.2 with
  | true => rfl
  | false =>
    simp only [cond_false, Bool.false_eq_true, if_false]
    have := rcut_loop d c ([], [], 0, ([], 0, 0), 0, false) hl hc d.2.1.length 0 d.1 (by omega) ok hs
    rw [show ((0 : Nat) : Int) = 0 from rfl] at this
    rw [this]; rfl

theorem nowS_take (l : List (Int × List Int)) (i : Int) (x : List Int) (k : Nat) (hk : k < l.length) : nowS (l.take (k + 1)) i x = if l[k].1 = i then l[k].2 else nowS (l.take k) i x := by
  rw [List.take_succ_eq_append_getElem hk]
  exact nowS_app _ _ i _ x

theorem rnow_loop' (d : RefT) (i : Int) (x : List Int) (hl : d.2.1.length < 1000000) : ∀ (k : Nat), k ≤ d.2.1.length → (loopC ref03_Now_l1_0_1_0g (i, (k : Int) - 1, d) = some (.inr (nowS (d.2.1.take k) i x))) ∨ (loopC ref03_Now_l1_0_1_0g (i, (k : Int) - 1, d) = some (.inl (i, d)) ∧ nowS (d.2.1.take k) i x = x)
  | 0, h => by
    refine .inr ⟨?_, by simp [nowS]⟩
    rw [loopC_eq, show ref03_Now_l1_0_1_0g (i, ((0 : Nat) : Int) - 1, d) = ref03_Now_l1_0_1_0r i (((0 : Nat) : Int) - 1) d from rfl]
    unfold ref03_Now_l1_0_1_0r
    rw [leI_f (by omega)]; rfl
  | k + 1, h => by
    have hk : k < d.2.1.length := by omega
    have e : ref03_Now_l1_0_1_0g (i, ((k + 1 : Nat) : Int) - 1, d) = if d.2.1[k].1 = i then some (.inr (.inr d.2.1[k].2)) else some (.inl (i, (k : Int) - 1, d)) := by
      rw [show ((k + 1 : Nat) : Int) - 1 = (k : Int) by omega]
      show ref03_Now_l1_0_1_0r i (k : Int) d = _
      unfold ref03_Now_l1_0_1_0r
      rw [leI_t (by omega), idx_in hk]
      simp only [cond_true, Option.bind_some]
      by_cases hx : d.2.1[k].1 = i
      · rw [eqI_t hx, if_pos hx]; rfl
      · rw [eqI_f hx, if_neg hx, W64_in (by omega)]; rfl
    rw [loopC_eq, e, nowS_take _ _ _ _ hk]
    by_cases hx : d.2.1[k].1 = i
    · rw [if_pos hx, if_pos hx]; exact .inl rfl
    · rw [if_neg hx, if_neg hx]; exact rnow_loop' d i x hl k (by omega)

theorem rnow_is (d : RefT) (i : Nat) (hl : d.2.1.length < 1000000) (hi : i < d.1.length) : ref03_Now d (i : Int) = some (nowS d.2.1 (i : Int) d.1[i]) := by
  unfold ref03_Now
  rw [short_ok (by omega), W64_in (by omega)]
  have := rnow_loop' d (i : Int) d.1[i] hl d.2.1.length (Nat.le_refl _)
  rw [List.take_length] at this
  rcases this with h | ⟨h1, h2⟩
  · rw [h]; rfl
  · rw [h1, h2]
    simp only [Option.bind_some, Sum.elim_inl]
    rw [idx_in hi]; rfl

/-- the choice that counts -/
def refOf (x : DevT) (ch : List Int × Int × Int) : RefT := (x.2.2.2.2.2, x.1, x.2.1, ch, x.2.2.2.1, x.2.2.2.2.1)
def Chose (x : DevT) (ch : List Int × Int × Int) : Prop := x.2.1 = -1 ∨ ch = x.2.2.1

theorem rchange_is {x : DevT} (hd : OkD x.1 x.2.2.2.2.2) (h2 : -1 ≤ x.2.1 ∧ x.2.1 ≤ 9223372036854775807) (hcl : x.2.2.1.1.length < 1000000) (hn : 0 ≤ x.2.2.2.1 ∧ x.2.2.2.1 < 1000000000) (hs : x.2.2.2.2.2.length < 1000000) {ch : List Int × Int × Int} (hc : Chose x ch) (hl : x.1.length < 1000000) (ho : x.2.2.2.2.1 = false) : ∃ ch', ref03_change_2 (refOf x ch) = some (refOf (changeD x).2 ch', (changeD x).1) ∧ Chose (changeD x).2 ch' := by
  unfold ref03_change_2 refOf
  simp only
  rw [W64_in (by omega)]
  unfold changeD
  by_cases h0 : x.2.1 = 0
  · rw [eqI_t h0, if_neg (by omega), if_pos h0]
    have e : ch = x.2.2.1 := by rcases hc with hc | hc; omega; exact hc
    simp only [cond_true]
    rw [rcut_is _ _ (by simp only; omega) (by rw [e]; exact hcl) hd hs]
    simp only [ho, Bool.false_eq_true, if_false, Option.bind_some, cutD, e]
    exact ⟨([], 0, 0), rfl, .inl rfl⟩
  · rw [eqI_f h0]
    simp only [cond_false]
    by_cases h1 : x.2.1 < 0
    · rw [ltI_f (by omega), if_pos h1]
      exact ⟨ch, rfl, hc⟩
    · rw [ltI_t (by omega), if_neg h1, if_neg h0, W64_in (by omega)]
      exact ⟨ch, rfl, .inr (by rcases hc with hc | hc; omega; exact hc)⟩

theorem rput_is {x : DevT} (h : OkDev x) {ch : List Int × Int × Int} (hc : Chose x ch) (i : Int) (b : List Int) (hb : b.length < 1000000) : ∃ ch', ref03_Put_2 (refOf x ch) i b = some (refOf (writeD x i b).2 ch', (writeD x i b).1) ∧ Chose (writeD x i b).2 ch' := by
  have hl := h.l
  unfold ref03_Put_2 writeD
  rw [rwhy_is _ _ h.s, show (refOf x ch).2.2.2.2.2 = x.2.2.2.2.1 from rfl, show (refOf x ch).1 = x.2.2.2.2.2 from rfl]
  simp only [Option.bind_some]
  by_cases hw : whyS x.2.2.2.2.1 x.2.2.2.2.2.length i = 0
  · rw [neI_f hw, if_neg (by simpa using hw), short_ok (by omega)]
    by_cases hbl : b.length = 256
    · rw [neI_f (by omega), if_neg (by simpa using hbl), show (refOf x ch).2.1 = x.1 from rfl, beq_self]
      simp only [cond_false, cond_true]
      rw [app_ok (by simp; omega), app_ok (by simp; omega), win_all _ _ rfl]
      have hoff : x.2.2.2.2.1 = false := by
        unfold whyS at hw
        cases ho : x.2.2.2.2.1 with
        | true => rw [ho] at hw; cases hw
        | false => rfl
      have hd : OkD (x.1 ++ [(i, b)]) x.2.2.2.2.2 := h.add (why0 hw) hbl
      obtain ⟨ch', e1, e2⟩ := rchange_is (x := (x.1 ++ [(i, b)], x.2)) hd h.left h.c h.n h.s (ch := ch) hc (by simp; omega) hoff
      refine ⟨ch', ?_, e2⟩
      exact (congrArg (fun z => Option.bind z _) e1).trans rfl
    · rw [neI_t (by omega), if_pos hbl]; exact ⟨ch, rfl, hc⟩
  · rw [neI_t hw, if_pos hw]; exact ⟨ch, rfl, hc⟩

theorem rbar_loop (d : RefT) (t : RefT) (hl : d.2.1.length < 1000000) (hs : d.1.length < 1000000) (hw : ∀ w, w ∈ d.2.1 → 0 ≤ w.1) :
    loopC ref03_Barrier_2_l1_1_1_1_0_1_0g (0, t, d) = some (t, (sureS d.2.1 d.1, d.2)) := by
  have hS : (sureS d.2.1 d.1).length = d.1.length := sureS_len _ _
  have := loop_run ref03_Barrier_2_l1_1_1_1_0_1_0g (fun i => ((i : Int), t, ((sureS d.2.1 d.1).take i ++ d.1.drop i, d.2))) (fun _ => (t, (sureS d.2.1 d.1, d.2))) d.1.length ?_ ?_
  · simpa using this
  · show ref03_Barrier_2_l1_1_1_1_0_1_0r (d.1.length : Nat) t ((sureS d.2.1 d.1).take d.1.length ++ d.1.drop d.1.length, d.2) = _
    unfold ref03_Barrier_2_l1_1_1_1_0_1_0r
    have e : (sureS d.2.1 d.1).take d.1.length ++ d.1.drop d.1.length = sureS d.2.1 d.1 := by rw [List.take_of_length_le (by omega), List.drop_length, List.append_nil]
    rw [e, short_ok (by simp only; omega), ltI_f (by simp only; omega)]; rfl
  · intro i hi
    refine .inl ⟨?_, rfl⟩
    show ref03_Barrier_2_l1_1_1_1_0_1_0r (i : Int) t ((sureS d.2.1 d.1).take i ++ d.1.drop i, d.2) = _
    unfold ref03_Barrier_2_l1_1_1_1_0_1_0r
    have hlen : ((sureS d.2.1 d.1).take i ++ d.1.drop i).length = d.1.length := by simp; omega
    have hat : ((sureS d.2.1 d.1).take i ++ d.1.drop i)[i]'(by omega) = d.1[i] := by
      rw [List.getElem_append_right (by simp; omega)]
      simp only [List.length_take, hS, List.getElem_drop]
      congr 1; omega
    have hset : ((sureS d.2.1 d.1).take i ++ d.1.drop i).set i (nowS d.2.1 (i : Int) d.1[i]) = (sureS d.2.1 d.1).take (i + 1) ++ d.1.drop (i + 1) := by
      have h1 := sureS_at d.2.1 d.1 i hw hi
      rw [List.getElem?_eq_getElem (by omega), List.getElem?_eq_getElem hi, Option.getD_some] at h1
      rw [← Option.some.inj h1, List.set_append_right _ _ (by simp; omega), List.take_succ_eq_append_getElem (by omega), List.drop_eq_getElem_cons hi, List.append_assoc]
      simp only [List.length_take, hS]
      rw [show i - min i d.1.length = 0 by omega]
      rfl
    rw [short_ok (by simp only; omega), ltI_t (by simp only; omega)]
    simp only [cond_true]
    rw [rnow_is ((sureS d.2.1 d.1).take i ++ d.1.drop i, d.2) i hl (by simp only; omega)]
    simp only [Option.bind_some, hat]
    rw [rwith_is _ _ _ (by omega) (by omega), Int.toNat_natCast, hset, W64_in (by omega)]
    rfl

theorem rbarrier_is {x : DevT} (h : OkDev x) {ch : List Int × Int × Int} (hc : Chose x ch) : ∃ ch', ref03_Barrier_2 (refOf x ch) = some (refOf (barrierD x).2 ch', (barrierD x).1) ∧ Chose (barrierD x).2 ch' := by
  have hl := h.l
  unfold ref03_Barrier_2 barrierD
  rw [show (refOf x ch).2.2.2.2.2 = x.2.2.2.2.1 from rfl]
  cases ho : x.2.2.2.2.1 with
  | true => exact ⟨ch, rfl, hc⟩
  | false =>
    obtain ⟨ch', e1, e2⟩ := rchange_is h.d h.left h.c h.n h.s hc (by omega) ho
    rw [e1]
    simp only [cond_false, Bool.false_eq_true, if_false, Option.bind_some]
    have hcd := changeD_d (x := x) h.d (by omega)
    have hsl : (changeD x).2.2.2.2.2.2.length < 1000000 ∨ (changeD x).1 ≠ 0 := by
      unfold changeD
      split
      · exact .inl h.s
      · split
        · exact .inr (by simp)
        · exact .inl h.s
    by_cases h0 : (changeD x).1 = 0
    · obtain ⟨c1, c2⟩ := hcd h0
      have hs : (changeD x).2.2.2.2.2.2.length < 1000000 := hsl.resolve_right (by simp [h0])
      generalize changeD x = r at *
      rw [neI_f h0, if_neg (by simp [h0])]
      simp only [cond_false]
      have hb := rbar_loop (refOf r.2 ch') ([], [], 0, ([], 0, 0), 0, false) c2 hs (fun w hw => (c1.w w hw).1)
      rw [hb]
      exact ⟨ch', rfl, e2⟩
    · rw [neI_t h0, if_pos h0]
      exact ⟨ch', rfl, e2⟩

theorem rnew_loop (n : Nat) (hn : n ≤ 10) :
    loopC ref03_New_l1_1_1_0_1_0g ((n : Int), sec0, 0, 0, 0, 0, 0, false, [], [], [], []) = some (0, 0, 0, 0, false, List.replicate n sec0, [], [], []) := by
  have := loop_run ref03_New_l1_1_1_0_1_0g (fun i => ((n : Int), sec0, (i : Int), 0, 0, 0, 0, false, List.replicate i sec0, [], [], [])) (fun _ => (0, 0, 0, 0, false, List.replicate n sec0, [], [], [])) n ?_ ?_
  · exact this
  · show ref03_New_l1_1_1_0_1_0r (n : Int) sec0 (n : Int) 0 0 0 0 false (List.replicate n sec0) [] [] [] = _
    unfold ref03_New_l1_1_1_0_1_0r
    rw [ltI_f (by omega)]
    simp only [beq_self, cond_true, cond_false]
  · intro i hi
    refine .inl ⟨?_, rfl⟩
    show ref03_New_l1_1_1_0_1_0r (n : Int) sec0 (i : Int) 0 0 0 0 false (List.replicate i sec0) [] [] [] = _
    unfold ref03_New_l1_1_1_0_1_0r
    rw [ltI_t (by omega)]
    simp only [beq_self, cond_true, cond_false]
    rw [app_ok (by simp; omega), W64_in (by omega), List.replicate_succ' (n := i)]
    rfl

theorem rnew_is (n : Nat) (hn : n ≤ 10) : ref03_New (n : Int) = some (refOf (newD n) ([], 0, 0)) := by
  unfold ref03_New
  rw [win_all _ _ (by rw [List.length_replicate]), show List.replicate 256 (0 : Int) = sec0 from rfl]
  have := rnew_loop n hn
  rw [this]
  simp only [List.length_nil, beq_self, cond_true, Option.bind_some]
  rw [win_all _ _ rfl]
  rfl

end Go.Proofs.Ytamfpgmpofncoaa

/- Devices: whatever is done, the answers are the document's. -/
set_option maxRecDepth 100000
set_option linter.unusedSimpArgs false
set_option linter.unusedVariables false
namespace Go.Proofs.Ytamfpgmpofncoaa
open Go.Tm Go.Ab

/-- so many sectors, at most so many changes -/
structure PI (n m : Nat) (x : DevT) : Prop where
  d : OkD x.1 x.2.2.2.2.2
  l : x.1.length ≤ m
  left : -1 ≤ x.2.1 ∧ x.2.1 ≤ 9223372036854775807
  c : x.2.2.1.1.length ≤ 70
  ch : 0 ≤ x.2.2.2.1 ∧ x.2.2.2.1 ≤ m
  s : x.2.2.2.2.2.length = n

theorem PI.ok {n m : Nat} {x : DevT} (h : PI n m x) (hn : n < 1000000) (hm : m < 900000) : OkDev x :=
  ⟨h.d, by have := h.l; omega, h.left, by have := h.c; omega, by have := h.ch; omega, by rw [h.s]; exact hn⟩

theorem cutS_okD {c : List Int × Int × Int} : ∀ (l : List (Int × List Int)) (k : Nat) (s : List (List Int)), OkD l s → ∀ y, y ∈ cutS c l k s → y.length = 256
  | [], _, _, ok => ok.s
  | w :: ws, k, s, ok => by
    have hw := ok.w w (by simp)
    have ht := tornN_in c k
    exact cutS_okD ws (k + 1) _ ⟨putS_ok ok.s hw.1 hw.2.1 hw.2.2 (by omega), fun v hv => by rw [putS_len]; exact ok.w v (by simp [hv])⟩

theorem cutD_PI {n m : Nat} {x : DevT} (h : PI n m x) (c : List Int × Int × Int) : PI n m (cutD c x) := by
  unfold cutD
  split
  · exact h
  · exact ⟨⟨cutS_okD _ _ _ h.d, fun w hw => by cases hw⟩, Nat.zero_le _, ⟨by simp, by simp⟩, h.c, h.ch, by simp only [cutS_len]; exact h.s⟩

theorem changeD_PI {n m : Nat} {x : DevT} (hd : OkD x.1 x.2.2.2.2.2) (hl : x.1.length ≤ m + 1) (h2 : -1 ≤ x.2.1 ∧ x.2.1 ≤ 9223372036854775807) (hc : x.2.2.1.1.length ≤ 70) (hn : 0 ≤ x.2.2.2.1 ∧ x.2.2.2.1 ≤ m) (hs : x.2.2.2.2.2.length = n) : PI n (m + 1) (changeD x).2 := by
  have hn' : 0 ≤ x.2.2.2.1 + 1 ∧ x.2.2.2.1 + 1 ≤ ((m + 1 : Nat) : Int) := by omega
  unfold changeD
  split
  · exact ⟨hd, hl, h2, hc, hn', hs⟩
  · split
    · exact cutD_PI (x := (x.1, -1, x.2.2.1, x.2.2.2.1 + 1, x.2.2.2.2.1, x.2.2.2.2.2)) ⟨hd, hl, ⟨by simp, by simp⟩, hc, hn', hs⟩ _
    · exact ⟨hd, hl, ⟨by simp only; omega, by simp only; omega⟩, hc, hn', hs⟩

theorem PI.mono {n m m' : Nat} {x : DevT} (h : PI n m x) (hm : m ≤ m') : PI n m' x := ⟨h.d, by have := h.l; omega, h.left, h.c, by have := h.ch; omega, h.s⟩

theorem writeD_PI {n m : Nat} {x : DevT} (h : PI n m x) (i : Int) (b : List Int) : PI n (m + 1) (writeD x i b).2 := by
  unfold writeD
  split
  · exact h.mono (by omega)
  · split
    · exact h.mono (by omega)
    · rename_i h1 h2
      have hw := why0 (Decidable.not_not.1 h1)
      refine changeD_PI (x := (x.1 ++ [(i, b)], x.2)) ⟨h.d.s, fun w hm => ?_⟩ (by have := h.l; simp; omega) h.left h.c h.ch h.s
      rcases List.mem_append.1 hm with hm | hm
      · exact h.d.w w hm
      · simp only [List.mem_singleton] at hm; subst hm; exact ⟨hw.1, hw.2, by simpa using h2⟩

theorem barrierD_PI {n m : Nat} {x : DevT} (h : PI n m x) : PI n (m + 1) (barrierD x).2 := by
  have hc := changeD_PI h.d (by have := h.l; omega) h.left h.c h.ch h.s
  unfold barrierD
  split
  · exact h.mono (by omega)
  · split
    · exact hc
    · exact ⟨⟨sureS_okD _ _ hc.d, fun w hw => by cases hw⟩, Nat.zero_le _, hc.left, hc.c, hc.ch, by simp only [sureS_len]; exact hc.s⟩

/-! ### the law's own loops -/
theorem loopA (t9 f : Int) (h : List (Int × List Int)) (h2 : Int) (h3 : List Int × Int × Int) (h4 : Int) (h5 : Bool) (t6 t62 t63 t64 : Int) (t65 : Bool) (b : List Int) (y : RefT) (h6 t66 : List (List Int)) (t67 : List (Int × List Int)) (t68 : List Int) (hb : b.length < 1000000) :
    loopC law03_step_2_l1_0_1_0_1_0_1_1_1_1_0_1_0g (t9, f, (b.length : Nat), 0, h, h2, h3, h4, h5, t6, t62, t63, t64, t65, b, y, h6, t66, t67, t68) = some (t9, f, h, h2, h3, h4, h5, t6, t62, t63, t64, t65, y, h6, t66, t67, t68) := by
  have hlast : ∀ s, (∃ b' : List Int, b'.length = b.length ∧ s = (t9, f, ((b.length : Nat) : Int), ((b.length : Nat) : Int), h, h2, h3, h4, h5, t6, t62, t63, t64, t65, b', y, h6, t66, t67, t68)) → ∃ r, law03_step_2_l1_0_1_0_1_0_1_1_1_1_0_1_0g s = some (.inr r) ∧ r = (t9, f, h, h2, h3, h4, h5, t6, t62, t63, t64, t65, y, h6, t66, t67, t68) := by
    rintro s ⟨b', hb', rfl⟩
    refine ⟨_, ?_, rfl⟩
    show law03_step_2_l1_0_1_0_1_0_1_1_1_1_0_1_0r _ _ _ _ _ _ _ _ _ _ _ _ _ _ _ _ _ _ _ _ = _
    unfold law03_step_2_l1_0_1_0_1_0_1_1_1_1_0_1_0r
    dsimp only
    rw [ltI_f (by omega)]
    simp only [beq_self, cond_true, cond_false]
  obtain ⟨r, h1, h2⟩ := loop_inv law03_step_2_l1_0_1_0_1_0_1_1_1_1_0_1_0g b.length (fun i s => ∃ b' : List Int, b'.length = b.length ∧ s = (t9, f, ((b.length : Nat) : Int), (i : Int), h, h2, h3, h4, h5, t6, t62, t63, t64, t65, b', y, h6, t66, t67, t68)) _ hlast
    (fun i s hi hx => by
      obtain ⟨b', hb', rfl⟩ := hx
      refine .inl ⟨_, ?_, b'.set i (WU8 (b'[i] + 1)), by rw [List.length_set]; exact hb', rfl⟩
      show law03_step_2_l1_0_1_0_1_0_1_1_1_1_0_1_0r _ _ _ _ _ _ _ _ _ _ _ _ _ _ _ _ _ _ _ _ = _
      unfold law03_step_2_l1_0_1_0_1_0_1_1_1_1_0_1_0r
      dsimp only
      rw [ltI_t (by omega), inI_t (by omega)]
      simp only [Int.toNat_natCast, List.getElem?_eq_getElem (show i < b'.length by omega), Option.bind_some, List.length_set, beq_self, cond_true]
      rw [W64_in (by omega)]; rfl) ⟨b, rfl, rfl⟩
  rw [← h2]; exact h1

theorem loopB (ok : Bool) (h : List (Int × List Int)) (h2 : Int) (h3 : List Int × Int × Int) (h4 : Int) (h5 : Bool) (x : RefT) (t6 t62 t63 t64 : Int) (t65 : Bool) (b : List Int) (h6 t66 : List (List Int)) (t67 : List (Int × List Int)) (t68 : List Int) (hb : b.length < 1000000) :
    loopC law03_step_2_l1_0_1_0_1_1_1_1_1_0_1_1_1_0_1_0g (ok, (b.length : Nat), 0, h, h2, h3, h4, h5, x, t6, t62, t63, t64, t65, b, h6, t66, t67, t68) = some (ok, h, h2, h3, h4, h5, x, t6, t62, t63, t64, t65, h6, t66, t67, t68) := by
  have hlast : ∀ s, (∃ b' : List Int, b'.length = b.length ∧ s = (ok, ((b.length : Nat) : Int), ((b.length : Nat) : Int), h, h2, h3, h4, h5, x, t6, t62, t63, t64, t65, b', h6, t66, t67, t68)) → ∃ r, law03_step_2_l1_0_1_0_1_1_1_1_1_0_1_1_1_0_1_0g s = some (.inr r) ∧ r = (ok, h, h2, h3, h4, h5, x, t6, t62, t63, t64, t65, h6, t66, t67, t68) := by
    rintro s ⟨b', hb', rfl⟩
    refine ⟨_, ?_, rfl⟩
    show law03_step_2_l1_0_1_0_1_1_1_1_1_0_1_1_1_0_1_0r _ _ _ _ _ _ _ _ _ _ _ _ _ _ _ _ _ _ _ = _
    unfold law03_step_2_l1_0_1_0_1_1_1_1_1_0_1_1_1_0_1_0r
    dsimp only
    rw [ltI_f (by omega)]
    simp only [beq_self, cond_true, cond_false]
  obtain ⟨r, h1, h2⟩ := loop_inv law03_step_2_l1_0_1_0_1_1_1_1_1_0_1_1_1_0_1_0g b.length (fun i s => ∃ b' : List Int, b'.length = b.length ∧ s = (ok, ((b.length : Nat) : Int), (i : Int), h, h2, h3, h4, h5, x, t6, t62, t63, t64, t65, b', h6, t66, t67, t68)) _ hlast
    (fun i s hi hx => by
      obtain ⟨b', hb', rfl⟩ := hx
      refine .inl ⟨_, ?_, b'.set i (WU8 (b'[i] + 1)), by rw [List.length_set]; exact hb', rfl⟩
      show law03_step_2_l1_0_1_0_1_1_1_1_1_0_1_1_1_0_1_0r _ _ _ _ _ _ _ _ _ _ _ _ _ _ _ _ _ _ _ = _
      unfold law03_step_2_l1_0_1_0_1_1_1_1_1_0_1_1_1_0_1_0r
      dsimp only
      rw [ltI_t (by omega), inI_t (by omega)]
      simp only [Int.toNat_natCast, List.getElem?_eq_getElem (show i < b'.length by omega), Option.bind_some, List.length_set, beq_self, cond_true]
      rw [W64_in (by omega)]; rfl) ⟨b, rfl, rfl⟩
  rw [← h2]; exact h1

theorem loopCc (h : List (Int × List Int)) (h2 : Int) (h3 : List Int × Int × Int) (h4 : Int) (h5 : Bool) (x : RefT) (o : OpT) (t6 t62 t63 t64 : Int) (t65 : Bool) (c c2 : Int) (b : List Int) (h6 t66 : List (List Int)) (t67 : List (Int × List Int)) (t68 : List Int) (hb : b.length < 1000000) :
    loopC law03_step_2_l1_1_1_1_0_1_0g ((b.length : Nat), 0, h, h2, h3, h4, h5, x, o, t6, t62, t63, t64, t65, c, c2, h6, t66, t67, t68, b) = some (h, h2, h3, h4, h5, x, o, t6, t62, t63, t64, t65, h6, t66, t67, t68) := by
  have hlast : ∀ s, (∃ b' : List Int, b'.length = b.length ∧ s = (((b.length : Nat) : Int), ((b.length : Nat) : Int), h, h2, h3, h4, h5, x, o, t6, t62, t63, t64, t65, c, c2, h6, t66, t67, t68, b')) → ∃ r, law03_step_2_l1_1_1_1_0_1_0g s = some (.inr r) ∧ r = (h, h2, h3, h4, h5, x, o, t6, t62, t63, t64, t65, h6, t66, t67, t68) := by
    rintro s ⟨b', hb', rfl⟩
    refine ⟨_, ?_, rfl⟩
    show law03_step_2_l1_1_1_1_0_1_0r _ _ _ _ _ _ _ _ _ _ _ _ _ _ _ _ _ _ _ _ _ = _
    unfold law03_step_2_l1_1_1_1_0_1_0r
    dsimp only
    rw [ltI_f (by omega)]
    simp only [beq_self, cond_true, cond_false]
  obtain ⟨r, h1, h2⟩ := loop_inv law03_step_2_l1_1_1_1_0_1_0g b.length (fun i s => ∃ b' : List Int, b'.length = b.length ∧ s = (((b.length : Nat) : Int), (i : Int), h, h2, h3, h4, h5, x, o, t6, t62, t63, t64, t65, c, c2, h6, t66, t67, t68, b')) _ hlast
    (fun i s hi hx => by
      obtain ⟨b', hb', rfl⟩ := hx
      refine .inl ⟨_, ?_, b'.set i 0, by rw [List.length_set]; exact hb', rfl⟩
      show law03_step_2_l1_1_1_1_0_1_0r _ _ _ _ _ _ _ _ _ _ _ _ _ _ _ _ _ _ _ _ _ = _
      unfold law03_step_2_l1_1_1_1_0_1_0r
      dsimp only
      rw [ltI_t (by omega), inI_t (by omega)]
      simp only [Int.toNat_natCast, List.getElem?_eq_getElem (show i < b'.length by omega), Option.bind_some, List.length_set, beq_self, cond_true]
      rw [W64_in (by omega)]; rfl) ⟨b, rfl, rfl⟩
  rw [← h2]; exact h1

theorem clone3_is (l : List Int) (h : l.length < 1000000) : slices_Clone_3 l = some (l, l) := by
  unfold slices_Clone_3
  rw [nil_same]
  · rw [cond_false, win_all _ _ rfl, app_ok (by simp; omega)]; rfl
  · intro h0
    rw [cond_true, cond_false, win_all _ _ rfl, app_ok (by simp; omega), List.eq_nil_of_length_eq_zero h0]; rfl

theorem WU64_tmod6 (a : Int) : 0 ≤ (WU64 a).tmod 6 ∧ (WU64 a).tmod 6 < 6 := by
  have h := wrap_range .u64 a
  simp only [IntKind.min, IntKind.max, IntKind.bits, IntKind.signed] at h
  have h0 : 0 ≤ WU64 a := by simpa using h.1
  rw [Int.tmod_eq_emod_of_nonneg h0]
  omega

theorem step_is {n i : Nat} (hn : 1 ≤ n ∧ n ≤ 10) (hi : i ≤ 60) {x : DevT} {ch : List Int × Int × Int} (h : PI n i x) (hc : Chose x ch) {o : OpT} (ho : fitO o) (hat : o.2.1 ≤ 9223372036854775807) :
    ∃ (y : DevT) (ch' : List Int × Int × Int), law03_step_2 (refOf x ch) o x.1 x.2.1 x.2.2.1 x.2.2.2.1 x.2.2.2.2.1 x.2.2.2.2.2 = some (refOf y ch', true, y) ∧ PI n (i + 1) y ∧ Chose y ch' := by
  have ok := h.ok (by omega) (by omega)
  have hk := WU64_tmod6 o.1
  obtain ⟨k, a, c, S, long, c3, torn, half⟩ := o
  simp only [fitO] at ho hat hk
  unfold law03_step_2
  simp only
  generalize (WU64 k).tmod 6 = m at hk ⊢
  by_cases m0 : m = 0
  · rw [eqI_t m0, full2_is]
    simp only [Option.bind_some, cond_true]
    have hbl : (fullS c S).length = 256 := fullS_len _ _
    have fin : ∀ b : List Int, b.length ≤ 300 → ∃ (y : DevT) (ch' : List Int × Int × Int), (bif Nat.beq (List.length b) (List.length b) then
        bif Nat.beq (List.length x.2.2.2.2.2) (List.length x.2.2.2.2.2) then
        (device_Device_Write_4 a x.1 x.2.1 x.2.2.1 x.2.2.2.1 x.2.2.2.2.1 b x.2.2.2.2.2).bind fun r2 =>
        winK r2.2.2.2.2.2.2.1 0 (List.length b) fun w =>
        (ref03_Put_2 (refOf x ch) a w).bind fun r3 =>
        shortK (List.length b) (
        bif Nat.beq (List.length b) (List.length r2.2.2.2.2.2.2.1) then
        bif Nat.beq (List.length r2.2.2.2.2.2.2.2) (List.length r2.2.2.2.2.2.2.2) then
        (loopC law03_step_2_l1_0_1_0_1_0_1_1_1_1_0_1_0g (r2.1, r3.2, (List.length b : Nat), 0, r2.2.1, r2.2.2.1, r2.2.2.2.1, r2.2.2.2.2.1, r2.2.2.2.2.2.1, 0, 0, 0, 0, false, r2.2.2.2.2.2.2.1, r3.1, r2.2.2.2.2.2.2.2, [], [], [])).bind fun o2 =>
        bif Nat.beq (List.length o2.2.2.2.2.2.2.2.2.2.2.2.2.2.1) (List.length o2.2.2.2.2.2.2.2.2.2.2.2.2.2.1) then
        some (o2.2.2.2.2.2.2.2.2.2.2.2.2.1, eqI o2.1 o2.2.1, o2.2.2.1, o2.2.2.2.1, o2.2.2.2.2.1, o2.2.2.2.2.2.1, o2.2.2.2.2.2.2.1, o2.2.2.2.2.2.2.2.2.2.2.2.2.2.1)
        else none
        else none
        else none)
        else none
        else none) = some (refOf y ch', true, y) ∧ PI n (i + 1) y ∧ Chose y ch' := fun b hb => by
      obtain ⟨ch', e1, e2⟩ := rput_is ok hc a b (by omega)
      refine ⟨(writeD x a b).2, ch', ?_, writeD_PI h a b, e2⟩
      rw [write4_y a b x ok (by omega)]
      simp only [Option.bind_some, beq_self, cond_true]
      rw [win_all _ _ rfl, e1]
      simp only [Option.bind_some, beq_self, cond_true]
      rw [short_ok (by omega), loopA _ _ _ _ _ _ _ _ _ _ _ _ _ _ _ _ _ _ (by omega)]
      simp only [Option.bind_some, beq_self, cond_true]
      rw [eqI_t rfl]
    cases long with
    | true =>
      simp only [cond_true, beq_self, Option.bind_some, List.length_nil]
      rw [app_ok (by simp; omega)]
      simp only [cond_true, beq_self, Option.bind_some, List.length_nil]
      have := fin (fullS c S ++ [0]) (by simp; omega)
      simpa only [cond_true, beq_self] using this
    | false =>
      simp only [cond_true, cond_false, beq_self, Option.bind_some, List.length_nil]
      have := fin (fullS c S) (by omega)
      simpa only [cond_true, beq_self] using this
  rw [eqI_f m0]
  by_cases m1 : m = 1
  · rw [eqI_t m1, barrier_x x ok]
    obtain ⟨ch', e1, e2⟩ := rbarrier_is ok hc
    rw [e1]
    simp only [cond_true, cond_false, beq_self, Option.bind_some]
    rw [eqI_t rfl]
    exact ⟨(barrierD x).2, ch', rfl, barrierD_PI h, e2⟩
  rw [eqI_f m1]
  by_cases m2 : m = 2
  · rw [eqI_t m2, read_y _ _ ok]
    refine ⟨x, ch, ?_, h.mono (by omega), hc⟩
    simp only [cond_true, cond_false, beq_self, Option.bind_some]
    rw [rwhy_is (refOf x ch) a ok.s, show (refOf x ch).2.2.2.2.2 = x.2.2.2.2.1 from rfl, show (refOf x ch).1 = x.2.2.2.2.2 from rfl]
    simp only [Option.bind_some]
    by_cases hw : whyS x.2.2.2.2.1 x.2.2.2.2.2.length a = 0
    · obtain ⟨h0, h1⟩ := why0 hw
      have hlt : a.toNat < x.2.2.2.2.2.length := by omega
      have er : readD x a = (0, nowS x.1 a x.2.2.2.2.2[a.toNat]) := by
        unfold readD; rw [hw, if_neg (by simp), List.getElem?_eq_getElem hlt]; rfl
      have hx : (nowS x.1 a x.2.2.2.2.2[a.toNat]).length = 256 := nowS_len _ _ _ (fun w hw => (h.d.w w hw).2.2) (h.d.s _ (List.getElem_mem hlt))
      have hnow : ref03_Now (refOf x ch) ((a.toNat : Nat) : Int) = some (nowS x.1 ((a.toNat : Nat) : Int) x.2.2.2.2.2[a.toNat]) := rnow_is (refOf x ch) a.toNat (by have := ok.l; show x.1.length < _; omega) hlt
      rw [show ((a.toNat : Nat) : Int) = a by omega] at hnow
      rw [neI_f hw, er, hnow]
      simp only [cond_false, eqI_t rfl, cond_true]
      rw [win_all _ _ rfl]
      simp only [Option.bind_some, List.length_nil, beq_self, cond_true]
      rw [eqS_t rfl, short_ok (by omega), loopB _ _ _ _ _ _ _ _ _ _ _ _ _ _ _ _ _ (by omega)]
      simp only [cond_true, cond_false, beq_self, Option.bind_some]
    · have er : readD x a = (whyS x.2.2.2.2.1 x.2.2.2.2.2.length a, []) := by
        unfold readD; rw [if_pos hw]
      rw [neI_t hw, er]
      simp only [cond_true, eqI_t rfl]
      rw [short_ok (by simp)]
      rfl
  rw [eqI_f m2]
  by_cases m3 : m = 3
  · rw [eqI_t m3]
    simp only [cond_true, cond_false, beq_self]
    rw [cut_x _ x ok (by simp only; omega)]
    simp only [Option.bind_some]
    rw [rcut_is (refOf x ch) _ (by have := ok.l; show x.1.length < _; omega) (by simp only; omega) h.d ok.s]
    simp only [Option.bind_some]
    refine ⟨cutD (c3, torn, half) x, if x.2.2.2.2.1 then ch else ([], 0, 0), ?_, (cutD_PI h _).mono (by omega), ?_⟩
    · unfold cutD
      cases hoff : x.2.2.2.2.1 with
      | true => rw [if_pos (show (refOf x ch).2.2.2.2.2 = true from hoff), if_pos rfl, if_pos rfl]
      | false => simp only [Bool.false_eq_true, if_false, refOf, hoff]
    · unfold cutD
      cases hoff : x.2.2.2.2.1 with
      | true => exact hc
      | false => exact .inl rfl
  rw [eqI_f m3]
  by_cases m4 : m = 4
  · rw [eqI_t m4]
    simp only [cond_true, cond_false, beq_self]
    have e : device_Device_On_4 x.1 x.2.1 x.2.2.1 x.2.2.2.1 x.2.2.2.2.1 x.2.2.2.2.2 = some (x.2.2.2.2.1, onD x) := by
      unfold device_Device_On_4 onD
      simp only [beq_self, cond_true]
      cases x.2.2.2.2.1 <;> rfl
    rw [e]
    simp only [Option.bind_some]
    refine ⟨onD x, ch, ?_, ⟨h.d, by have := h.l; simp only [onD]; omega, h.left, h.c, by have := h.ch; simp only [onD]; omega, h.s⟩, hc⟩
    simp [refOf, onD]
  rw [eqI_f m4]
  simp only [cond_false]
  rw [app_ok (by simp; omega)]
  have ep : device_Device_Plan_4 a torn half x.1 x.2.1 x.2.2.1 x.2.2.2.1 x.2.2.2.2.1 c3 x.2.2.2.2.2 = some (x.1, maxI a (-1), (c3, torn, half), x.2.2.2.1, x.2.2.2.2.1, c3, x.2.2.2.2.2) := by
    unfold device_Device_Plan_4
    rw [clone3_is _ (by omega)]
    simp only [beq_self, cond_true, Option.bind_some]
  rw [ep]
  simp only [beq_self, cond_true, Option.bind_some]
  rw [short_ok (by omega), loopCc _ _ _ _ _ _ _ _ _ _ _ _ _ _ _ _ _ _ _ (by omega)]
  simp only [beq_self, cond_true, Option.bind_some]
  unfold ref03_Plan_2
  simp only [Option.bind_some]
  refine ⟨(x.1, maxI a (-1), (c3, torn, half), x.2.2.2.1, x.2.2.2.2.1, x.2.2.2.2.2), (c3, torn, half), rfl, ⟨h.d, by have := h.l; simp only; omega, ?_, ho.2, by have := h.ch; simp only; omega, h.s⟩, .inr rfl⟩
  simp only [maxI]
  split <;> omega

/-! ### the law -/
def PlayInv (n : Nat) (script : List OpT) (i : Nat) (s : Int × List OpT × Int × Int × (List (Int × (List Int))) × Int × ((List Int) × Int × Int) × Int × Bool × RefT × (List (List Int))) : Prop :=
  ∃ (x : DevT) (ch : List Int × Int × Int), PI n i x ∧ Chose x ch ∧ s = ((n : Int), script, ((script.length : Nat) : Int), (i : Int), x.1, x.2.1, x.2.2.1, x.2.2.2.1, x.2.2.2.2.1, refOf x ch, x.2.2.2.2.2)

theorem changes2_is (d : List (List Int) × List (Int × List Int) × Int × (List Int × Int × Int) × Int × Bool) : device_Device_Changes_2 d = some d.2.2.2.2.1 := rfl
theorem loose2_is (d : List (List Int) × List (Int × List Int) × Int × (List Int × Int × Int) × Int × Bool) (h : d.2.1.length < 1000000) : device_Device_Loose_2 d = some ((List.length d.2.1 : Nat) : Int) := by
  unfold device_Device_Loose_2; rw [short_ok (by omega)]

theorem play_step {n : Nat} (hn : 1 ≤ n ∧ n ≤ 10) {script : List OpT} (hs : script.length ≤ 60) (hf : ∀ o, o ∈ script → fitO o) (hat : ∀ o, o ∈ script → o.2.1 ≤ 9223372036854775807) {i : Nat} (hi : i < script.length) {s} (h : PlayInv n script i s) :
    ∃ s', law03_DevicePlays_l1_1_1_1_1_0_1_0n2g s = some (.inl s') ∧ PlayInv n script (i + 1) s' := by
  obtain ⟨x, ch, h, hc, rfl⟩ := h
  obtain ⟨y, ch', e1, e2, e3⟩ := step_is hn (by omega) h hc (hf _ (List.getElem_mem hi)) (hat _ (List.getElem_mem hi))
  have hl := e2.l
  show ∃ s', law03_DevicePlays_l1_1_1_1_1_0_1_0n2r (n : Int) script (script.length : Nat) (i : Int) x.1 x.2.1 x.2.2.1 x.2.2.2.1 x.2.2.2.2.1 (refOf x ch) x.2.2.2.2.2 = some (.inl s') ∧ PlayInv n script (i + 1) s'
  unfold law03_DevicePlays_l1_1_1_1_1_0_1_0n2r
  rw [ltI_t (by omega), idx_in hi]
  simp only [Option.bind_some, cond_true, beq_self]
  rw [e1]
  simp only [Option.bind_some, Bool.not_true, cond_false]
  rw [win_all _ _ rfl, off_x]
  simp only [Option.bind_some, refOf, beq_self_eq_true, Bool.not_true, cond_false]
  rw [win_all _ _ rfl, loose2_is _ (by simp only; omega)]
  simp only [Option.bind_some]
  rw [short_ok (by omega), neI_f rfl]
  simp only [cond_false]
  rw [win_all _ _ rfl, changes2_is]
  simp only [Option.bind_some, neI_f rfl, cond_false]
  rw [W64_in (by omega)]
  exact ⟨_, rfl, y, ch', e2, e3, rfl⟩

theorem play_reads {n m : Nat} (hn : n ≤ 10) (hm : m ≤ 100) {x : DevT} (h : PI n m x) (ho : x.2.2.2.2.1 = false) (ch : List Int × Int × Int) :
    loopC law03_DevicePlays_l1_1_1_1_1_1_1_1_0_1_0n2g ((n : Int), 0, x.1, x.2.1, x.2.2.1, x.2.2.2.1, x.2.2.2.2.1, refOf x ch, x.2.2.2.2.2) = some (.inl ()) := by
  have ok := h.ok (by omega) (by omega)
  have := loop_run law03_DevicePlays_l1_1_1_1_1_1_1_1_0_1_0n2g (fun i => ((n : Int), (i : Int), x.1, x.2.1, x.2.2.1, x.2.2.2.1, x.2.2.2.2.1, refOf x ch, x.2.2.2.2.2)) (fun _ => .inl ()) n ?_ ?_
  · exact this
  · show law03_DevicePlays_l1_1_1_1_1_1_1_1_0_1_0n2r (n : Int) (n : Int) x.1 x.2.1 x.2.2.1 x.2.2.2.1 x.2.2.2.2.1 (refOf x ch) x.2.2.2.2.2 = _
    unfold law03_DevicePlays_l1_1_1_1_1_1_1_1_0_1_0n2r
    rw [ltI_f (by omega)]; rfl
  · intro i hi
    refine .inl ⟨?_, rfl⟩
    show law03_DevicePlays_l1_1_1_1_1_1_1_1_0_1_0n2r (n : Int) (i : Int) x.1 x.2.1 x.2.2.1 x.2.2.2.1 x.2.2.2.2.1 (refOf x ch) x.2.2.2.2.2 = _
    unfold law03_DevicePlays_l1_1_1_1_1_1_1_1_0_1_0n2r
    have hlt : i < x.2.2.2.2.2.length := by rw [h.s]; exact hi
    have er : readD x (i : Int) = (0, nowS x.1 (i : Int) x.2.2.2.2.2[i]) := by
      unfold readD
      rw [show whyS x.2.2.2.2.1 x.2.2.2.2.2.length (i : Int) = 0 by unfold whyS; rw [ho, if_neg (by simp), if_pos (by omega)], if_neg (by simp), Int.toNat_natCast, List.getElem?_eq_getElem hlt]; rfl
    have hnow : ref03_Now (refOf x ch) (i : Int) = some (nowS x.1 (i : Int) x.2.2.2.2.2[i]) := rnow_is (refOf x ch) i (by have := ok.l; show x.1.length < _; omega) hlt
    rw [ltI_t (by omega), beq_self, read_y _ _ ok, er]
    simp only [Option.bind_some, cond_true, cond_false, neI_f rfl]
    rw [win_all _ _ rfl, hnow]
    simp only [Option.bind_some]
    rw [eqS_t rfl, beq_self, W64_in (by omega)]
    rfl

theorem plays_true (n : Int) (script : List OpT) (hat : ∀ o, o ∈ script → o.2.1 ≤ 9223372036854775807) (hl : script.length ≤ 9223372036854775807) (hs : ∀ o, o ∈ script → o.2.2.2.1.length ≤ 9223372036854775807 ∧ o.2.2.2.2.2.1.length ≤ 9223372036854775807) : law03_DevicePlays n script = some true := by
  unfold law03_DevicePlays
  rw [lives_is]
  simp only [Option.bind_some, Bool.not_true, cond_false]
  rcases fits_is n script hl hs with ⟨h1, h2, h3, h4, h5⟩ | h1
  · rw [h1]
    simp only [Option.bind_some, Bool.not_true, cond_false]
    rw [new_is n (by omega)]
    obtain ⟨m, rfl⟩ : ∃ m : Nat, n = m := ⟨n.toNat, by omega⟩
    simp only [Option.bind_some, Sum.elim_inr, beq_self, cond_true, neI_f rfl, cond_false, Int.toNat_natCast]
    have h0 := Fine.new m
    have p0 : PI m 0 (newD m) := ⟨h0.d, Nat.zero_le _, by rw [h0.left]; decide, Nat.zero_le _, h0.ch, h0.s⟩
    rw [win_all _ _ rfl]
    have es : device_Device_Size_2 ((newD m).2.2.2.2.2, (newD m).1, (newD m).2.1, (newD m).2.2.1, (newD m).2.2.2.1, (newD m).2.2.2.2.1) = some (m : Int) := by
      unfold device_Device_Size_2
      rw [h0.s, short_ok (by omega)]
    rw [es]
    simp only [Option.bind_some, neI_f rfl, cond_false]
    rw [rnew_is m (by omega)]
    simp only [Option.bind_some]
    rw [short_ok (by omega)]
    have hlast : ∀ s, PlayInv m script script.length s → ∃ r, law03_DevicePlays_l1_1_1_1_1_0_1_0n2g s = some (.inr r) ∧ ∃ (x : DevT) (ch : List Int × Int × Int), PI m script.length x ∧ r = .inl ((m : Int), x.1, x.2.1, x.2.2.1, x.2.2.2.1, x.2.2.2.2.1, refOf x ch, x.2.2.2.2.2) := by
      rintro s ⟨x, ch, h, hc, rfl⟩
      refine ⟨_, ?_, x, ch, h, rfl⟩
      show law03_DevicePlays_l1_1_1_1_1_0_1_0n2r (m : Int) script (script.length : Nat) (script.length : Nat) x.1 x.2.1 x.2.2.1 x.2.2.2.1 x.2.2.2.2.1 (refOf x ch) x.2.2.2.2.2 = _
      unfold law03_DevicePlays_l1_1_1_1_1_0_1_0n2r
      rw [ltI_f (by omega), beq_self]; rfl
    obtain ⟨r, g1, x, ch, g2, g3⟩ := loop_inv law03_DevicePlays_l1_1_1_1_1_0_1_0n2g script.length (PlayInv m script) _ hlast
      (fun i s hi h => .inl (play_step (by omega) h4 h5 hat hi h)) ⟨newD m, ([], 0, 0), p0, .inl rfl, rfl⟩
    refine (congrArg (fun z => Option.bind z _) g1).trans ?_
    rw [g3]
    simp only [Option.bind_some, Sum.elim_inl, beq_self, cond_true]
    rw [on_x x]
    simp only [Option.bind_some, beq_self, cond_true]
    have hr := play_reads (x := onD x) (by omega) (by omega) ⟨g2.d, g2.l, g2.left, g2.c, g2.ch, g2.s⟩ rfl ch
    refine (congrArg (fun z => Option.bind z _) hr).trans ?_
    rfl
  · rw [h1]; rfl

end Go.Proofs.Ytamfpgmpofncoaa
