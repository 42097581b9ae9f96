/- Layer 20: what the functions of package ward compute, for every state whose wards and retirements are given. Printed by the session's own wip/gen/ward.py. -/
import Derived.Test.YtnfmpdnmcdbkdaaProg
import Derived.Test.YtnfmpdnmcdbkdaaWardSpreadSpec
import Derived.KernelRfl
set_option linter.unusedVariables false
set_option linter.unusedSimpArgs false
set_option maxRecDepth 10000
namespace Go.Proofs.Ytnfmpdnmcdbkdaa
open Go.Ab
theorem tyAgg22 : tyAgg Try.prog 22 = some true := by kernel_rfl
theorem tyAgg23 : tyAgg Try.prog 23 = some true := by kernel_rfl
theorem tyAgg25 : tyAgg Try.prog 25 = some true := by kernel_rfl
theorem tyAgg3 : tyAgg Try.prog 3 = some false := by kernel_rfl
theorem tyAgg33 : tyAgg Try.prog 33 = some true := by kernel_rfl
theorem tyAgg4 : tyAgg Try.prog 4 = some false := by kernel_rfl
theorem callable10 : callable Try.prog 10 = true := by kernel_rfl
theorem callable11 : callable Try.prog 11 = true := by kernel_rfl
theorem callable12 : callable Try.prog 12 = true := by kernel_rfl
theorem callable13 : callable Try.prog 13 = true := by kernel_rfl
theorem callable14 : callable Try.prog 14 = true := by kernel_rfl
theorem callable15 : callable Try.prog 15 = true := by kernel_rfl
theorem callable16 : callable Try.prog 16 = true := by kernel_rfl
theorem callable17 : callable Try.prog 17 = true := by kernel_rfl
theorem callable18 : callable Try.prog 18 = true := by kernel_rfl
theorem callable19 : callable Try.prog 19 = true := by kernel_rfl
theorem callable20 : callable Try.prog 20 = true := by kernel_rfl
theorem callable21 : callable Try.prog 21 = true := by kernel_rfl
theorem callable22 : callable Try.prog 22 = true := by kernel_rfl
theorem callable23 : callable Try.prog 23 = true := by kernel_rfl
theorem callable8 : callable Try.prog 8 = true := by kernel_rfl
theorem callable9 : callable Try.prog 9 = true := by kernel_rfl
theorem tySz3 : tySz Try.prog 3 = some 1 := by kernel_rfl
def zeroC3 : List PV := [vi .i64 0]
theorem zero3 : zeroPV Try.prog 3 = some zeroC3 := by kernel_rfl
theorem zeroLeaf3 : Leafs zeroC3 := by simp [Leafs, leaf, zeroC3]
theorem elem3 : ElemT Try.prog 3 1 8 := ⟨tySz3, by kernel_rfl, by decide, zeroC3, zero3, rfl⟩
theorem fldsOk22 : fldsOk Try.prog 22 = true := by kernel_rfl
theorem fldsOk23 : fldsOk Try.prog 23 = true := by kernel_rfl
theorem fldsOk33 : fldsOk Try.prog 33 = true := by kernel_rfl
theorem fo25_0 : fldOff Try.prog 25 0 = some 0 := by kernel_rfl
theorem fo25_1 : fldOff Try.prog 25 1 = some 8 := by kernel_rfl
theorem fo25_2 : fldOff Try.prog 25 2 = some 16 := by kernel_rfl
theorem fo25_3 : fldOff Try.prog 25 3 = some 24 := by kernel_rfl
theorem fo33_3 : fldOff Try.prog 33 3 = some 10 := by kernel_rfl
theorem fo33_4 : fldOff Try.prog 33 4 = some 18 := by kernel_rfl
theorem follows : Try.prog.follows .mixedOrders = true := by kernel_rfl
theorem place22_0 : placeOf Try.prog 22 0 = some (0, 1) := by kernel_rfl
theorem place22_1 : placeOf Try.prog 22 1 = some (1, 1) := by kernel_rfl
theorem place22_2 : placeOf Try.prog 22 2 = some (2, 1) := by kernel_rfl
theorem place22_3 : placeOf Try.prog 22 3 = some (3, 1) := by kernel_rfl
theorem place23_0 : placeOf Try.prog 23 0 = some (0, 1) := by kernel_rfl
theorem place23_1 : placeOf Try.prog 23 1 = some (1, 1) := by kernel_rfl
theorem place23_2 : placeOf Try.prog 23 2 = some (2, 1) := by kernel_rfl
theorem place23_3 : placeOf Try.prog 23 3 = some (3, 1) := by kernel_rfl
theorem place33_3 : placeOf Try.prog 33 3 = some (10, 8) := by kernel_rfl
theorem place33_4 : placeOf Try.prog 33 4 = some (18, 8) := by kernel_rfl
theorem srcTy35 : srcTy Try.prog 35 = true := by kernel_rfl
theorem tySz22 : tySz Try.prog 22 = some 8 := by kernel_rfl
theorem tySz23 : tySz Try.prog 23 = some 8 := by kernel_rfl
theorem tySz25 : tySz Try.prog 25 = some 32 := by kernel_rfl
theorem tySz33 : tySz Try.prog 33 = some 26 := by kernel_rfl
theorem tySz4 : tySz Try.prog 4 = some 1 := by kernel_rfl
theorem tyUn22 : Try.prog.underlying 22 = some (.array 8 3) := by kernel_rfl
theorem tyUn23 : Try.prog.underlying 23 = some (.array 8 4) := by kernel_rfl
theorem tyUn3 : Try.prog.underlying 3 = some (.int .i64) := by kernel_rfl
theorem tyUn35 : Try.prog.underlying 35 = some (.slice 3) := by kernel_rfl
theorem tyUn4 : Try.prog.underlying 4 = some (.bool) := by kernel_rfl
theorem tyUn44 : Try.prog.underlying 44 = some (.int .u64) := by kernel_rfl
def zeroC22 : List PV := [vi .i64 0, vi .i64 0, vi .i64 0, vi .i64 0, vi .i64 0, vi .i64 0, vi .i64 0, vi .i64 0]
theorem zero22 : zeroPV Try.prog 22 = some zeroC22 := by kernel_rfl
theorem zeroLeaf22 : Leafs zeroC22 := by simp [Leafs, leaf, zeroC22]
def zeroC23 : List PV := [vb false, vb false, vb false, vb false, vb false, vb false, vb false, vb false]
theorem zero23 : zeroPV Try.prog 23 = some zeroC23 := by kernel_rfl
theorem zeroLeaf23 : Leafs zeroC23 := by simp [Leafs, leaf, zeroC23]
def zeroC33 : List PV := [vi .u32 0, vi .u32 0, vi .u32 0, vi .u32 0, vi .u32 0, vi .u32 0, vi .u32 0, vi .u32 0, .tr 0 [] .full, .tr 0 [] .full, vi .i64 0, vi .i64 0, vi .i64 0, vi .i64 0, vi .i64 0, vi .i64 0, vi .i64 0, vi .i64 0, vb false, vb false, vb false, vb false, vb false, vb false, vb false, vb false]
theorem zero33 : zeroPV Try.prog 33 = some zeroC33 := by kernel_rfl
theorem zeroLeaf33 : Leafs zeroC33 := by simp [Leafs, leaf, zeroC33]

theorem of_spec {S : List PV} {W : Nat → Int} {R : Nat → Bool} (hS : IsSt S W R) (rep : Int) (k : Nat) : ACalls Try.prog 12 [.agg S, vi .i64 rep] [] k (fun p _ _ => p = vi .i64 (ofF W rep)) := by
  refine ACalls.of_body (n := 16) Try.func12 rfl rfl ?_
  refine .seq ?_
  refine .reg ?_
  refine .e rfl (step_box (p := .agg (S)) rfl rfl rfl ?_)
  refine .q rfl (q_assign (q := vi .i64 (0)) rfl rfl) ?_
  refine .nil ?_
  refine .seq ?_
  refine .seq ?_
  refine .reg ?_
  refine .q rfl (q_move (q := vi .i64 (rep)) rfl rfl) ?_
  refine .q rfl (q_bin (v := .bool (decide (rep < 1))) rfl rfl rfl rfl) ?_
  refine .q rfl (q_move (q := vb (decide (rep < 1))) rfl rfl) ?_
  by_cases h1 : rep < 1
  · skip
    have h1b : decide (rep < 1) = true := decide_eq_true h1
    refine .no (guard_n rfl h1b) ?_
    refine .no (guard_n rfl h1b) ?_
    refine .q rfl (q_pick_t (b := decide (rep < 1)) (q := vb (true)) rfl rfl h1b rfl) ?_
    refine .nil ?_
    refine .cond (b := true) rfl ?_
    refine .seq ?_
    refine .reg ?_
    refine .q rfl (q_assign (q := vi .i64 (0)) rfl rfl) ?_
    refine .nil ?_
    refine .ret ?_
    exact ⟨_, res_one rfl (q := vi .i64 (0)) rfl, (by show vi .i64 _ = vi .i64 _; congr 1; unfold ofF; first | rw [if_pos (by omega)] | rw [if_neg (by omega)])⟩
  · skip
    have h1b : decide (rep < 1) = false := decide_eq_false h1
    refine .q (guard_y rfl h1b) (q_move (q := vi .i64 (rep)) rfl rfl) ?_
    refine .q (guard_y rfl h1b) (q_bin (v := .bool (decide (rep > 8))) rfl rfl rfl rfl) ?_
    refine .q rfl (q_pick_f (b := decide (rep < 1)) (q := vb (decide (rep > 8))) rfl rfl h1b rfl) ?_
    refine .nil ?_
    by_cases h2 : rep > 8
    · skip
      have h2b : decide (rep > 8) = true := decide_eq_true h2
      refine .cond_t (b := decide (rep > 8)) rfl h2b ?_
      refine .seq ?_
      refine .reg ?_
      refine .q rfl (q_assign (q := vi .i64 (0)) rfl rfl) ?_
      refine .nil ?_
      refine .ret ?_
      exact ⟨_, res_one rfl (q := vi .i64 (0)) rfl, (by show vi .i64 _ = vi .i64 _; congr 1; unfold ofF; first | rw [if_pos (by omega)] | rw [if_neg (by omega)])⟩
    · skip
      have h2b : decide (rep > 8) = false := decide_eq_false h2
      refine .cond_f (b := decide (rep > 8)) rfl h2b ?_
      refine .skip ?_
      refine .seq ?_
      refine .reg ?_
      refine .q rfl (q_move (q := vi .i64 (rep)) rfl rfl) ?_
      refine .q rfl (q_bin (v := .int .i64 (rep - 1)) rfl rfl rfl (sub64 (by omega))) ?_
      refine .q rfl (q_field (fo := 10) rfl fo33_3 rfl) ?_
      refine .q rfl (q_iptr (off' := 10 + ((rep - 1)).toNat) rfl tyUn22 tySz3 rfl rfl (by omega) (by omega) (by omega)) ?_
      refine .q rfl (q_load (q := vi .i64 (W ((rep - 1)).toNat)) rfl rfl (loads_cell (b := 0) (off := 10 + ((rep - 1)).toNat) (cs := S) tyAgg3 rfl (hS.w ((rep - 1)).toNat (by omega)))) ?_
      refine .q rfl (q_assign (q := vi .i64 (W ((rep - 1)).toNat)) rfl rfl) ?_
      refine .nil ?_
      refine .ret ?_
      exact ⟨_, res_one rfl (q := vi .i64 (W ((rep - 1)).toNat)) rfl, (by show vi .i64 _ = vi .i64 _; congr 1; unfold ofF; first | rw [if_pos (by omega)] | rw [if_neg (by omega)])⟩

theorem here_spec {S : List PV} {W : Nat → Int} {R : Nat → Bool} (hS : IsSt S W R) {A : List PV} {ro : Nat → Bool} (hA : IsB A ro) (rep : Int) (k : Nat) : ACalls Try.prog 20 [.agg S, .agg A, vi .i64 rep] [] k (fun p _ _ => p = vb (hereF R ro rep)) := by
  refine ACalls.of_body (n := 27) Try.func20 rfl rfl ?_
  refine .seq ?_
  refine .reg ?_
  refine .e rfl (step_box (p := .agg (S)) rfl rfl rfl ?_)
  refine .e rfl (step_box (p := .agg (A)) rfl rfl rfl ?_)
  refine .q rfl (q_assign (q := vb (false)) rfl rfl) ?_
  refine .nil ?_
  refine .seq ?_
  refine .reg ?_
  refine .q rfl (q_move (q := vi .i64 (rep)) rfl rfl) ?_
  refine .q rfl (q_bin (v := .bool (decide (rep ≥ 1))) rfl rfl rfl rfl) ?_
  refine .q rfl (q_move (q := vb (decide (rep ≥ 1))) rfl rfl) ?_
  by_cases h1 : rep ≥ 1
  · skip
    have h1b : decide (rep ≥ 1) = true := decide_eq_true h1
    refine .q (guard_y rfl h1b) (q_move (q := vi .i64 (rep)) rfl rfl) ?_
    refine .q (guard_y rfl h1b) (q_bin (v := .bool (decide (rep ≤ 8))) rfl rfl rfl rfl) ?_
    refine .q rfl (q_pick_t (b := decide (rep ≥ 1)) (q := vb (decide (rep ≤ 8))) rfl rfl h1b rfl) ?_
    refine .q rfl (q_move (q := vb (decide (rep ≤ 8))) rfl rfl) ?_
    by_cases h2 : rep ≤ 8
    · skip
      have h2b : decide (rep ≤ 8) = true := decide_eq_true h2
      refine .q (guard_y rfl h2b) (q_move (q := vi .i64 (rep)) rfl rfl) ?_
      refine .q (guard_y rfl h2b) (q_bin (v := .int .i64 (rep - 1)) rfl rfl rfl (sub64 (by omega))) ?_
      refine .q (guard_y rfl h2b) (q_iptr (off' := 0 + ((rep - 1)).toNat) rfl tyUn23 tySz4 rfl rfl (by omega) (by omega) (by omega)) ?_
      refine .q (guard_y rfl h2b) (q_load (q := vb (ro ((rep - 1)).toNat)) rfl rfl (loads_cell (b := 1) (off := 0 + ((rep - 1)).toNat) (cs := A) tyAgg4 rfl (by rw [Nat.zero_add]; exact hA.get ((rep - 1)).toNat (by omega)))) ?_
      refine .q rfl (q_pick_t (b := decide (rep ≤ 8)) (q := vb (ro ((rep - 1)).toNat)) rfl rfl h2b rfl) ?_
      refine .q rfl (q_move (q := vb (ro ((rep - 1)).toNat)) rfl rfl) ?_
      rcases Bool.eq_false_or_eq_true (ro ((rep - 1)).toNat) with h3 | h3
      · skip
        refine .q (guard_y rfl h3) (q_move (q := vi .i64 (rep)) rfl rfl) ?_
        refine .q (guard_y rfl h3) (q_bin (v := .int .i64 (rep - 1)) rfl rfl rfl (sub64 (by omega))) ?_
        refine .q (guard_y rfl h3) (q_field (fo := 18) rfl fo33_4 rfl) ?_
        refine .q (guard_y rfl h3) (q_iptr (off' := 18 + ((rep - 1)).toNat) rfl tyUn23 tySz4 rfl rfl (by omega) (by omega) (by omega)) ?_
        refine .q (guard_y rfl h3) (q_load (q := vb (R ((rep - 1)).toNat)) rfl rfl (loads_cell (b := 0) (off := 18 + ((rep - 1)).toNat) (cs := S) tyAgg4 rfl (hS.r ((rep - 1)).toNat (by omega)))) ?_
        refine .q (guard_y rfl h3) (q_not (a := R ((rep - 1)).toNat) rfl rfl) ?_
        refine .q rfl (q_pick_t (b := ro ((rep - 1)).toNat) (q := vb (!(R ((rep - 1)).toNat))) rfl rfl h3 rfl) ?_
        refine .q rfl (q_assign (q := vb (!(R ((rep - 1)).toNat))) rfl rfl) ?_
        refine .nil ?_
        refine .ret ?_
        exact ⟨_, res_one rfl (q := vb (!(R ((rep - 1)).toNat))) rfl, (by simp only [hereF, h1b, h2b, h3, Bool.true_and, Bool.false_and, Bool.and_true, Bool.and_false])⟩
      · skip
        refine .no (guard_n rfl h3) ?_
        refine .no (guard_n rfl h3) ?_
        refine .no (guard_n rfl h3) ?_
        refine .no (guard_n rfl h3) ?_
        refine .no (guard_n rfl h3) ?_
        refine .no (guard_n rfl h3) ?_
        refine .q rfl (q_pick_f (b := ro ((rep - 1)).toNat) (q := vb (false)) rfl rfl h3 rfl) ?_
        refine .q rfl (q_assign (q := vb (false)) rfl rfl) ?_
        refine .nil ?_
        refine .ret ?_
        exact ⟨_, res_one rfl (q := vb (false)) rfl, (by simp only [hereF, h1b, h2b, h3, Bool.true_and, Bool.false_and, Bool.and_true, Bool.and_false])⟩
    · skip
      have h2b : decide (rep ≤ 8) = false := decide_eq_false h2
      refine .no (guard_n rfl h2b) ?_
      refine .no (guard_n rfl h2b) ?_
      refine .no (guard_n rfl h2b) ?_
      refine .no (guard_n rfl h2b) ?_
      refine .q rfl (q_pick_f (b := decide (rep ≤ 8)) (q := vb (false)) rfl rfl h2b rfl) ?_
      refine .q rfl (q_move (q := vb (false)) rfl rfl) ?_
      refine .no rfl ?_
      refine .no rfl ?_
      refine .no rfl ?_
      refine .no rfl ?_
      refine .no rfl ?_
      refine .no rfl ?_
      refine .q rfl (q_pick_f (b := false) (q := vb (false)) rfl rfl rfl rfl) ?_
      refine .q rfl (q_assign (q := vb (false)) rfl rfl) ?_
      refine .nil ?_
      refine .ret ?_
      exact ⟨_, res_one rfl (q := vb (false)) rfl, (by simp only [hereF, h1b, h2b, Bool.true_and, Bool.false_and, Bool.and_true, Bool.and_false])⟩
  · skip
    have h1b : decide (rep ≥ 1) = false := decide_eq_false h1
    refine .no (guard_n rfl h1b) ?_
    refine .no (guard_n rfl h1b) ?_
    refine .q rfl (q_pick_f (b := decide (rep ≥ 1)) (q := vb (false)) rfl rfl h1b rfl) ?_
    refine .q rfl (q_move (q := vb (false)) rfl rfl) ?_
    refine .no rfl ?_
    refine .no rfl ?_
    refine .no rfl ?_
    refine .no rfl ?_
    refine .q rfl (q_pick_f (b := false) (q := vb (false)) rfl rfl rfl rfl) ?_
    refine .q rfl (q_move (q := vb (false)) rfl rfl) ?_
    refine .no rfl ?_
    refine .no rfl ?_
    refine .no rfl ?_
    refine .no rfl ?_
    refine .no rfl ?_
    refine .no rfl ?_
    refine .q rfl (q_pick_f (b := false) (q := vb (false)) rfl rfl rfl rfl) ?_
    refine .q rfl (q_assign (q := vb (false)) rfl rfl) ?_
    refine .nil ?_
    refine .ret ?_
    exact ⟨_, res_one rfl (q := vb (false)) rfl, (by simp only [hereF, h1b, Bool.true_and, Bool.false_and, Bool.and_true, Bool.and_false])⟩

theorem members_spec {S : List PV} {W : Nat → Int} {R : Nat → Bool} (hS : IsSt S W R) {A : List PV} {ro : Nat → Bool} (hA : IsB A ro) (ward : Int) (k : Nat) : ACalls Try.prog 10 [.agg S, .agg A, vi .i64 ward] [] k (fun p _ _ => p = .tr (membersF W R ro ward).length ((membersF W R ro ward).map (vi .i64)) .no) := by
  refine ACalls.of_body (n := 29) Try.func10 rfl rfl ?_
  refine .seq ?_
  refine .reg ?_
  refine .e rfl (step_box (p := .agg (S)) rfl rfl rfl ?_)
  refine .e rfl (step_box (p := .agg (A)) rfl rfl rfl ?_)
  refine .q rfl (q_assign (q := .tr (0) ([]) .full) rfl rfl) ?_
  refine .nil ?_
  refine .seq ?_
  refine .reg ?_
  refine .q rfl (q_assign (q := .tr (0) ([]) .full) rfl rfl) ?_
  refine .nil ?_
  refine .seq ?_
  refine .seq ?_
  refine .reg ?_
  refine .q rfl (q_assign (q := vi .i64 (1)) rfl rfl) ?_
  refine .nil ?_
  refine .block ?_
  refine .loopK (S := Nat × Nat × List PV × Tail × List Bool) [2, 3, 4, 7, 8] (fun ⟨i, ln, cs, tl, ts⟩ => ⟨29, [(2, vi .i64 (ward)), (3, .ptr 0 (0)), (4, .ptr 1 (0)), (7, .tr (ln) (cs) tl), (8, vi .i64 (((i : Int) + 1)))], [.row (S) 33, .row (A) 23], ts⟩) (fun ⟨i, ln, cs, tl, ts⟩ => i ≤ 8 ∧ AppOK tl ts 1 ∧ ln = (memTo W R ro ward i).length ∧ cs = (memTo W R ro ward i).map (vi .i64)) (fun ⟨i, ln, cs, tl, ts⟩ => 8 - i) ⟨0, 0, [], .full, List.replicate k false⟩ ⟨by omega, .inl rfl, rfl, rfl⟩ rfl ?_
  rintro ⟨i, ln, cs, tl, ts⟩ ⟨hi, hap, hl, hc⟩
  have hln : ln ≤ i := by rw [hl]; exact memTo_len _ _ _ _ _
  refine .seq ?_
  refine .seq ?_
  refine .reg ?_
  refine .q rfl (q_move (q := vi .i64 (((i : Int) + 1))) rfl rfl) ?_
  refine .q rfl (q_bin (v := .bool (decide (((i : Int) + 1) ≤ 8))) rfl rfl rfl rfl) ?_
  refine .nil ?_
  by_cases h1 : ((i : Int) + 1) ≤ 8
  · skip
    have h1b : decide (((i : Int) + 1) ≤ 8) = true := decide_eq_true h1
    refine .cond_t (b := decide (((i : Int) + 1) ≤ 8)) rfl h1b ?_
    refine .skip ?_
    refine .seq ?_
    refine .block ?_
    refine .seq ?_
    refine .reg ?_
    refine .q rfl (q_load (q := .agg (S)) rfl rfl (loads_whole (b := 0) (cs := S) tyAgg33 tySz33 rfl hS.len)) ?_
    refine .q rfl (q_load (q := .agg (A)) rfl rfl (loads_whole (b := 1) (cs := A) tyAgg23 tySz23 rfl hA.len)) ?_
    refine .q rfl (q_move (q := vi .i64 (((i : Int) + 1))) rfl rfl) ?_
    refine .q rfl (q_call (ps := [.agg (S), .agg (A), vi .i64 (((i : Int) + 1))]) (r := vb (hereF R ro (((i : Int) + 1)))) rfl callable20 rfl ⟨hS.pure, hA.pure, trivial, trivial⟩ trivial (here_spec hS hA (((i : Int) + 1)))) ?_
    refine .q rfl (q_move (q := vb (hereF R ro (((i : Int) + 1)))) rfl rfl) ?_
    rcases Bool.eq_false_or_eq_true (hereF R ro (((i : Int) + 1))) with h2 | h2
    · skip
      refine .q (guard_y rfl h2) (q_load (q := .agg (S)) rfl rfl (loads_whole (b := 0) (cs := S) tyAgg33 tySz33 rfl hS.len)) ?_
      refine .q (guard_y rfl h2) (q_move (q := vi .i64 (((i : Int) + 1))) rfl rfl) ?_
      refine .q (guard_y rfl h2) (q_call (ps := [.agg (S), vi .i64 (((i : Int) + 1))]) (r := vi .i64 (ofF W (((i : Int) + 1)))) rfl callable12 rfl ⟨hS.pure, trivial, trivial⟩ trivial (of_spec hS (((i : Int) + 1)))) ?_
      refine .q (guard_y rfl h2) (q_move (q := vi .i64 (ward)) rfl rfl) ?_
      refine .q (guard_y rfl h2) (q_bin (v := .bool ((ofF W (((i : Int) + 1)) == ward))) rfl rfl rfl rfl) ?_
      refine .q rfl (q_pick_t (b := hereF R ro (((i : Int) + 1))) (q := vb ((ofF W (((i : Int) + 1)) == ward))) rfl rfl h2 rfl) ?_
      refine .nil ?_
      by_cases h3 : ofF W (((i : Int) + 1)) = ward
      · skip
        have h3b : (ofF W (((i : Int) + 1)) == ward) = true := beq_iff_eq.2 h3
        refine .cond_t (b := (ofF W (((i : Int) + 1)) == ward)) rfl h3b ?_
        refine .reg ?_
        refine .q rfl (q_move (q := .tr (ln) (cs) tl) rfl rfl) ?_
        refine .q rfl (q_move (q := vi .i64 (((i : Int) + 1))) rfl rfl) ?_
        refine .q rfl (q_lit (ps := [vi .i64 (((i : Int) + 1))]) rfl tyUn35 tySz3 (by decide) (by decide) zero3 rfl zeroLeaf3 (by decide) rfl rfl (fun p hp => by simp at hp; subst hp; exact ⟨rfl, rfl⟩)) ?_
        refine .e rfl (step_append (len := ln) (m := 1) (sz := 1) (cs := cs) (news := [vi .i64 (((i : Int) + 1))]) rfl tyUn35 elem3 srcTy35 rfl (by rw [hc, hl]; simp) (hap) (src_tr rfl rfl (by simp [Leafs, leaf])) (by omega) ?_)
        intro tl4 ts5 hap6 hke7
        refine .q rfl (q_assign (q := .tr (ln + 1) (cs ++ [vi .i64 (((i : Int) + 1))]) tl4) rfl rfl) ?_
        refine .nil ?_
        refine .reg ?_
        refine .q rfl (q_move (q := vi .i64 (((i : Int) + 1))) rfl rfl) ?_
        refine .q rfl (q_bin (v := .int .i64 ((((i : Int) + 1)) + 1)) rfl rfl rfl (add64 (by omega))) ?_
        refine .q rfl (q_assign (q := vi .i64 (((((i : Int) + 1)) + 1))) rfl rfl) ?_
        refine .nil ?_
        exact ⟨⟨i + 1, ln + 1, cs ++ [vi .i64 (((i : Int) + 1))], tl4, ts5⟩, ⟨by omega, hap6, by rw [memTo_succ]; simp [hl, h2, h3], by rw [memTo_succ]; simp [hc, h2, h3]⟩, rfl, (by show 8 - (i + 1) < 8 - i; omega)⟩
      · skip
        have h3b : (ofF W (((i : Int) + 1)) == ward) = false := beq_eq_false_iff_ne.2 h3
        refine .cond_f (b := (ofF W (((i : Int) + 1)) == ward)) rfl h3b ?_
        refine .skip ?_
        refine .reg ?_
        refine .q rfl (q_move (q := vi .i64 (((i : Int) + 1))) rfl rfl) ?_
        refine .q rfl (q_bin (v := .int .i64 ((((i : Int) + 1)) + 1)) rfl rfl rfl (add64 (by omega))) ?_
        refine .q rfl (q_assign (q := vi .i64 (((((i : Int) + 1)) + 1))) rfl rfl) ?_
        refine .nil ?_
        exact ⟨⟨i + 1, ln, cs, tl, ts⟩, ⟨by omega, hap, by rw [memTo_succ]; simp [hl, h2, h3], by rw [memTo_succ]; simp [hc, h2, h3]⟩, rfl, (by show 8 - (i + 1) < 8 - i; omega)⟩
    · skip
      refine .no (guard_n rfl h2) ?_
      refine .no (guard_n rfl h2) ?_
      refine .no (guard_n rfl h2) ?_
      refine .no (guard_n rfl h2) ?_
      refine .no (guard_n rfl h2) ?_
      refine .q rfl (q_pick_f (b := hereF R ro (((i : Int) + 1))) (q := vb (false)) rfl rfl h2 rfl) ?_
      refine .nil ?_
      refine .cond (b := false) rfl ?_
      refine .skip ?_
      refine .reg ?_
      refine .q rfl (q_move (q := vi .i64 (((i : Int) + 1))) rfl rfl) ?_
      refine .q rfl (q_bin (v := .int .i64 ((((i : Int) + 1)) + 1)) rfl rfl rfl (add64 (by omega))) ?_
      refine .q rfl (q_assign (q := vi .i64 (((((i : Int) + 1)) + 1))) rfl rfl) ?_
      refine .nil ?_
      exact ⟨⟨i + 1, ln, cs, tl, ts⟩, ⟨by omega, hap, by rw [memTo_succ]; simp [hl, h2], by rw [memTo_succ]; simp [hc, h2]⟩, rfl, (by show 8 - (i + 1) < 8 - i; omega)⟩
  · skip
    have h1b : decide (((i : Int) + 1) ≤ 8) = false := decide_eq_false h1
    refine .cond_f (b := decide (((i : Int) + 1) ≤ 8)) rfl h1b ?_
    refine .exit ?_
    refine .seq ?_
    refine .reg ?_
    refine .q rfl (q_move (q := .tr (ln) (cs) tl) rfl rfl) ?_
    refine .q rfl (q_assign (q := .tr (ln) (cs) tl) rfl rfl) ?_
    refine .nil ?_
    refine .ret ?_
    exact ⟨_, res_weak rfl rfl, (by rw [hl, hc, show i = 8 from by omega]; rfl)⟩

theorem master_spec {S : List PV} {W : Nat → Int} {R : Nat → Bool} (hS : IsSt S W R) {A : List PV} {ro : Nat → Bool} (hA : IsB A ro) {B : List PV} {up : Nat → Bool} (hB : IsB B up) (ward : Int) (k : Nat) : ACalls Try.prog 14 [.agg S, .agg A, .agg B, vi .i64 ward] [] k (fun p _ _ => p = vi .i64 (masterF W R ro up ward)) := by
  have hl : ∀ m, m ∈ membersF W R ro ward → 1 ≤ m ∧ m ≤ 8 := fun m h => members_lo h
  have hlen := ring_len W R ro ward
  refine ACalls.of_body (n := 26) Try.func14 rfl rfl ?_
  refine .seq ?_
  refine .reg ?_
  refine .e rfl (step_box (p := .agg (S)) rfl rfl rfl ?_)
  refine .e rfl (step_box (p := .agg (A)) rfl rfl rfl ?_)
  refine .e rfl (step_box (p := .agg (B)) rfl rfl rfl ?_)
  refine .q rfl (q_assign (q := vi .i64 (0)) rfl rfl) ?_
  refine .nil ?_
  refine .seq ?_
  refine .seq ?_
  refine .reg ?_
  refine .q rfl (q_load (q := .agg (S)) rfl rfl (loads_whole (b := 0) (cs := S) tyAgg33 tySz33 rfl hS.len)) ?_
  refine .q rfl (q_load (q := .agg (A)) rfl rfl (loads_whole (b := 1) (cs := A) tyAgg23 tySz23 rfl hA.len)) ?_
  refine .q rfl (q_move (q := vi .i64 (ward)) rfl rfl) ?_
  refine .q rfl (q_call (ps := [.agg (S), .agg (A), vi .i64 (ward)]) (r := .tr ((membersF W R ro (ward)).length) ((membersF W R ro (ward)).map (vi .i64)) .no) rfl callable10 rfl ⟨hS.pure, hA.pure, trivial, trivial⟩ ⟨rfl, (Pures_iff.2 (fun p hp => by simp at hp; obtain ⟨x, _, rfl⟩ := hp; trivial))⟩ (members_spec hS hA (ward))) ?_
  refine .q rfl (q_len_tr rfl tyUn35 rfl) ?_
  refine .q rfl (q_move (q := vi .i64 (0)) rfl rfl) ?_
  refine .nil ?_
  refine .block ?_
  refine .loopK (S := Nat) [6, 14, 15, 16] (fun i => ⟨26, [(6, .ptr 2 (0)), (14, .tr ((membersF W R ro (ward)).length) ((membersF W R ro (ward)).map (vi .i64)) .no), (15, vi .i64 ((((membersF W R ro (ward)).length : Nat) : Int))), (16, vi .i64 ((i : Int)))], [.row (S) 33, .row (A) 23, .row (B) 23], List.replicate k false⟩) (fun i => i ≤ (membersF W R ro ward).length ∧ firstF ((membersF W R ro ward).drop i) up = masterF W R ro up ward) (fun i => (membersF W R ro ward).length - i) 0 ⟨Nat.zero_le _, rfl⟩ rfl ?_
  rintro i ⟨hi, hinv⟩
  refine .seq ?_
  refine .reg ?_
  refine .q rfl (q_bin (v := .bool (decide ((i : Int) < (((membersF W R ro (ward)).length : Nat) : Int)))) rfl rfl rfl rfl) ?_
  refine .nil ?_
  refine .seq ?_
  by_cases h1 : (i : Int) < (((membersF W R ro (ward)).length : Nat) : Int)
  · skip
    have h1b : decide ((i : Int) < (((membersF W R ro (ward)).length : Nat) : Int)) = true := decide_eq_true h1
    refine .cond_t (b := decide ((i : Int) < (((membersF W R ro (ward)).length : Nat) : Int))) rfl h1b ?_
    refine .skip ?_
    refine .seq ?_
    refine .block ?_
    refine .seq ?_
    refine .reg ?_
    refine .q rfl (q_index_tr (i := (i : Int)) rfl tyUn35 tySz3 rfl rfl (by omega) (by omega)) ?_
    refine .q rfl (q_load (q := vi .i64 ((membersF W R ro (ward)).getD i 0)) rfl rfl (loads_fzcell tyAgg3 (cell_mapN (by omega)))) ?_
    have hm2 := atIn hl (i := i) (by omega)
    refine .q rfl (q_assign (q := vi .i64 ((membersF W R ro (ward)).getD i 0)) rfl rfl) ?_
    refine .nil ?_
    refine .seq ?_
    refine .reg ?_
    refine .q rfl (q_move (q := vi .i64 ((membersF W R ro (ward)).getD i 0)) rfl rfl) ?_
    refine .q rfl (q_bin (v := .int .i64 (((membersF W R ro (ward)).getD i 0) - 1)) rfl rfl rfl (sub64 (by omega))) ?_
    refine .q rfl (q_iptr (off' := 0 + (((membersF W R ro (ward)).getD i 0) - 1).toNat) rfl tyUn23 tySz4 rfl rfl (by omega) (by omega) (by omega)) ?_
    refine .q rfl (q_load (q := vb (up (((membersF W R ro (ward)).getD i 0) - 1).toNat)) rfl rfl (loads_cell (b := 2) (off := 0 + (((membersF W R ro (ward)).getD i 0) - 1).toNat) (cs := B) tyAgg4 rfl (by rw [Nat.zero_add]; exact hB.get (((membersF W R ro (ward)).getD i 0) - 1).toNat (by omega)))) ?_
    refine .nil ?_
    rcases Bool.eq_false_or_eq_true (up (((membersF W R ro (ward)).getD i 0) - 1).toNat) with h3 | h3
    · skip
      refine .cond_t (b := up (((membersF W R ro (ward)).getD i 0) - 1).toNat) rfl h3 ?_
      refine .seq ?_
      refine .reg ?_
      refine .q rfl (q_move (q := vi .i64 ((membersF W R ro (ward)).getD i 0)) rfl rfl) ?_
      refine .q rfl (q_assign (q := vi .i64 ((membersF W R ro (ward)).getD i 0)) rfl rfl) ?_
      refine .nil ?_
      refine .ret ?_
      exact ⟨_, res_one rfl (q := vi .i64 ((membersF W R ro (ward)).getD i 0)) rfl, (by show vi .i64 _ = vi .i64 _; congr 1; rw [← hinv, firstF_drop (i := i) (by omega), if_pos h3])⟩
    · skip
      refine .cond_f (b := up (((membersF W R ro (ward)).getD i 0) - 1).toNat) rfl h3 ?_
      refine .skip ?_
      refine .reg ?_
      refine .q rfl (q_bin (v := .int .i64 (((i : Int)) + 1)) rfl rfl rfl (add64 (by omega))) ?_
      refine .q rfl (q_move (q := vi .i64 ((((i : Int)) + 1))) rfl rfl) ?_
      refine .nil ?_
      exact ⟨i + 1, ⟨by omega, by rw [← hinv, firstF_drop (i := i) (by omega), if_neg (by rw [h3]; simp)]⟩, rfl, (by show (membersF W R ro ward).length - (i + 1) < (membersF W R ro ward).length - i; omega)⟩
  · skip
    have h1b : decide ((i : Int) < (((membersF W R ro (ward)).length : Nat) : Int)) = false := decide_eq_false h1
    refine .cond_f (b := decide ((i : Int) < (((membersF W R ro (ward)).length : Nat) : Int))) rfl h1b ?_
    refine .exit ?_
    refine .seq ?_
    refine .reg ?_
    refine .q rfl (q_assign (q := vi .i64 (0)) rfl rfl) ?_
    refine .nil ?_
    refine .ret ?_
    exact ⟨_, res_one rfl (q := vi .i64 (0)) rfl, (by show vi .i64 _ = vi .i64 _; congr 1; rw [← hinv, show i = (membersF W R ro ward).length from by omega, List.drop_length]; rfl)⟩

theorem next_spec {S : List PV} {W : Nat → Int} {R : Nat → Bool} (hS : IsSt S W R) {A : List PV} {ro : Nat → Bool} (hA : IsB A ro) {B : List PV} {up : Nat → Bool} (hB : IsB B up) (rep : Int) (k : Nat) : ACalls Try.prog 16 [.agg S, .agg A, .agg B, vi .i64 rep] [] k (fun p _ _ => p = vi .i64 (nextF W R ro up rep)) := by
  have hl : ∀ m, m ∈ membersF W R ro (ofF W rep) → 1 ≤ m ∧ m ≤ 8 := fun m h => members_lo h
  have hlen := ring_len W R ro (ofF W rep)
  refine ACalls.of_body (n := 45) Try.func16 rfl rfl ?_
  refine .seq ?_
  refine .reg ?_
  refine .e rfl (step_box (p := .agg (S)) rfl rfl rfl ?_)
  refine .e rfl (step_box (p := .agg (A)) rfl rfl rfl ?_)
  refine .e rfl (step_box (p := .agg (B)) rfl rfl rfl ?_)
  refine .q rfl (q_assign (q := vi .i64 (0)) rfl rfl) ?_
  refine .nil ?_
  refine .seq ?_
  refine .reg ?_
  refine .q rfl (q_assign (q := vi .i64 (0)) rfl rfl) ?_
  refine .nil ?_
  refine .seq ?_
  refine .seq ?_
  refine .drw (n := 45) [.agg (S), .agg (A), .agg (S), vi .i64 (rep), vi .i64 (ofF W (rep)), .tr ((membersF W R ro (ofF W (rep))).length) ((membersF W R ro (ofF W (rep))).map (vi .i64)) .no, vi .i64 ((((membersF W R ro (ofF W (rep))).length : Nat) : Int)), vi .i64 (0)] follows rfl (by kernel_rfl) (by kernel_rfl) ?_ ?_
  · skip
    refine .q rfl (q_load (q := .agg (S)) rfl rfl (loads_whole (b := 0) (cs := S) tyAgg33 tySz33 rfl hS.len)) ?_
    refine .q rfl (q_load (q := .agg (A)) rfl rfl (loads_whole (b := 1) (cs := A) tyAgg23 tySz23 rfl hA.len)) ?_
    refine .q rfl (q_load (q := .agg (S)) rfl rfl (loads_whole (b := 0) (cs := S) tyAgg33 tySz33 rfl hS.len)) ?_
    refine .q rfl (q_move (q := vi .i64 (rep)) rfl rfl) ?_
    refine .q rfl (q_call (ps := [.agg (S), vi .i64 (rep)]) (r := vi .i64 (ofF W (rep))) rfl callable12 rfl ⟨hS.pure, trivial, trivial⟩ trivial (of_spec hS (rep))) ?_
    refine .q rfl (q_call (ps := [.agg (S), .agg (A), vi .i64 (ofF W (rep))]) (r := .tr ((membersF W R ro (ofF W (rep))).length) ((membersF W R ro (ofF W (rep))).map (vi .i64)) .no) rfl callable10 rfl ⟨hS.pure, hA.pure, trivial, trivial⟩ ⟨rfl, (Pures_iff.2 (fun p hp => by simp at hp; obtain ⟨x, _, rfl⟩ := hp; trivial))⟩ (members_spec hS hA (ofF W (rep)))) ?_
    refine .q rfl (q_len_tr rfl tyUn35 rfl) ?_
    refine .q rfl (q_move (q := vi .i64 (0)) rfl rfl) ?_
    exact .nil
  refine .block ?_
  refine .loopK (S := Nat × Int) [3, 6, 9, 17, 18, 19] (fun ⟨i, f⟩ => ⟨45, [(3, vi .i64 (rep)), (6, .ptr 2 (0)), (9, vi .i64 (f)), (17, .tr ((membersF W R ro (ofF W (rep))).length) ((membersF W R ro (ofF W (rep))).map (vi .i64)) .no), (18, vi .i64 ((((membersF W R ro (ofF W (rep))).length : Nat) : Int))), (19, vi .i64 ((i : Int)))], [.row (S) 33, .row (A) 23, .row (B) 23], List.replicate k false⟩) (fun ⟨i, f⟩ => i ≤ (membersF W R ro (ofF W rep)).length ∧ nextL rep up ((membersF W R ro (ofF W rep)).drop i) f = nextF W R ro up rep) (fun ⟨i, f⟩ => (membersF W R ro (ofF W rep)).length - i) ⟨0, 0⟩ ⟨Nat.zero_le _, next_eq W R ro up rep⟩ rfl ?_
  rintro ⟨i, f⟩ ⟨hi, hinv⟩
  replace hi : i ≤ (membersF W R ro (ofF W rep)).length := hi
  replace hinv : nextL rep up ((membersF W R ro (ofF W rep)).drop i) f = nextF W R ro up rep := hinv
  refine .seq ?_
  refine .reg ?_
  refine .q rfl (q_bin (v := .bool (decide ((i : Int) < (((membersF W R ro (ofF W (rep))).length : Nat) : Int)))) rfl rfl rfl rfl) ?_
  refine .nil ?_
  refine .seq ?_
  by_cases h1 : (i : Int) < (((membersF W R ro (ofF W (rep))).length : Nat) : Int)
  · skip
    have h1b : decide ((i : Int) < (((membersF W R ro (ofF W (rep))).length : Nat) : Int)) = true := decide_eq_true h1
    refine .cond_t (b := decide ((i : Int) < (((membersF W R ro (ofF W (rep))).length : Nat) : Int))) rfl h1b ?_
    refine .skip ?_
    refine .seq ?_
    refine .block ?_
    refine .seq ?_
    refine .reg ?_
    refine .q rfl (q_index_tr (i := (i : Int)) rfl tyUn35 tySz3 rfl rfl (by omega) (by omega)) ?_
    refine .q rfl (q_load (q := vi .i64 ((membersF W R ro (ofF W (rep))).getD i 0)) rfl rfl (loads_fzcell tyAgg3 (cell_mapN (by omega)))) ?_
    have hm2 := atIn hl (i := i) (by omega)
    refine .q rfl (q_assign (q := vi .i64 ((membersF W R ro (ofF W (rep))).getD i 0)) rfl rfl) ?_
    refine .nil ?_
    refine .block ?_
    refine .seq ?_
    refine .reg ?_
    refine .q rfl (q_move (q := vi .i64 ((membersF W R ro (ofF W (rep))).getD i 0)) rfl rfl) ?_
    refine .q rfl (q_move (q := vi .i64 (rep)) rfl rfl) ?_
    refine .q rfl (q_bin (v := .bool (((membersF W R ro (ofF W (rep))).getD i 0 == rep))) rfl rfl rfl rfl) ?_
    refine .q rfl (q_move (q := vb (((membersF W R ro (ofF W (rep))).getD i 0 == rep))) rfl rfl) ?_
    by_cases h3 : (membersF W R ro (ofF W (rep))).getD i 0 = rep
    · skip
      have h3b : ((membersF W R ro (ofF W (rep))).getD i 0 == rep) = true := beq_iff_eq.2 h3
      refine .no (guard_n rfl h3b) ?_
      refine .no (guard_n rfl h3b) ?_
      refine .no (guard_n rfl h3b) ?_
      refine .no (guard_n rfl h3b) ?_
      refine .no (guard_n rfl h3b) ?_
      refine .q rfl (q_pick_t (b := ((membersF W R ro (ofF W (rep))).getD i 0 == rep)) (q := vb (true)) rfl rfl h3b rfl) ?_
      refine .q rfl (q_assign (q := vb (true)) rfl rfl) ?_
      refine .nil ?_
      refine .cond (b := true) rfl ?_
      refine .skip ?_
      refine .reg ?_
      refine .q rfl (q_bin (v := .int .i64 (((i : Int)) + 1)) rfl rfl rfl (add64 (by omega))) ?_
      refine .q rfl (q_move (q := vi .i64 ((((i : Int)) + 1))) rfl rfl) ?_
      refine .nil ?_
      exact ⟨⟨i + 1, f⟩, ⟨by omega, by show nextL rep up (List.drop (i + 1) _) (f) = _; rw [← hinv, nextL_drop (i := i) (by omega)]; rw [if_pos (.inl h3)]⟩, rfl, (by show (membersF W R ro (ofF W rep)).length - (i + 1) < (membersF W R ro (ofF W rep)).length - i; omega)⟩
    · skip
      have h3b : ((membersF W R ro (ofF W (rep))).getD i 0 == rep) = false := beq_eq_false_iff_ne.2 h3
      refine .q (guard_y rfl h3b) (q_move (q := vi .i64 ((membersF W R ro (ofF W (rep))).getD i 0)) rfl rfl) ?_
      refine .q (guard_y rfl h3b) (q_bin (v := .int .i64 (((membersF W R ro (ofF W (rep))).getD i 0) - 1)) rfl rfl rfl (sub64 (by omega))) ?_
      refine .q (guard_y rfl h3b) (q_iptr (off' := 0 + (((membersF W R ro (ofF W (rep))).getD i 0) - 1).toNat) rfl tyUn23 tySz4 rfl rfl (by omega) (by omega) (by omega)) ?_
      refine .q (guard_y rfl h3b) (q_load (q := vb (up (((membersF W R ro (ofF W (rep))).getD i 0) - 1).toNat)) rfl rfl (loads_cell (b := 2) (off := 0 + (((membersF W R ro (ofF W (rep))).getD i 0) - 1).toNat) (cs := B) tyAgg4 rfl (by rw [Nat.zero_add]; exact hB.get (((membersF W R ro (ofF W (rep))).getD i 0) - 1).toNat (by omega)))) ?_
      refine .q (guard_y rfl h3b) (q_not (a := up (((membersF W R ro (ofF W (rep))).getD i 0) - 1).toNat) rfl rfl) ?_
      refine .q rfl (q_pick_f (b := ((membersF W R ro (ofF W (rep))).getD i 0 == rep)) (q := vb (!(up (((membersF W R ro (ofF W (rep))).getD i 0) - 1).toNat))) rfl rfl h3b rfl) ?_
      refine .q rfl (q_assign (q := vb (!(up (((membersF W R ro (ofF W (rep))).getD i 0) - 1).toNat))) rfl rfl) ?_
      refine .nil ?_
      rcases Bool.eq_false_or_eq_true (up (((membersF W R ro (ofF W (rep))).getD i 0) - 1).toNat) with h4 | h4
      · skip
        refine .cond_f (b := !(up (((membersF W R ro (ofF W (rep))).getD i 0) - 1).toNat)) rfl (not_t h4) ?_
        refine .seq ?_
        refine .reg ?_
        refine .q rfl (q_move (q := vi .i64 ((membersF W R ro (ofF W (rep))).getD i 0)) rfl rfl) ?_
        refine .q rfl (q_move (q := vi .i64 (rep)) rfl rfl) ?_
        refine .q rfl (q_bin (v := .bool (decide ((membersF W R ro (ofF W (rep))).getD i 0 > rep))) rfl rfl rfl rfl) ?_
        refine .q rfl (q_assign (q := vb (decide ((membersF W R ro (ofF W (rep))).getD i 0 > rep))) rfl rfl) ?_
        refine .nil ?_
        by_cases h5 : (membersF W R ro (ofF W (rep))).getD i 0 > rep
        · skip
          have h5b : decide ((membersF W R ro (ofF W (rep))).getD i 0 > rep) = true := decide_eq_true h5
          refine .cond_t (b := decide ((membersF W R ro (ofF W (rep))).getD i 0 > rep)) rfl h5b ?_
          refine .seq ?_
          refine .reg ?_
          refine .q rfl (q_move (q := vi .i64 ((membersF W R ro (ofF W (rep))).getD i 0)) rfl rfl) ?_
          refine .q rfl (q_assign (q := vi .i64 ((membersF W R ro (ofF W (rep))).getD i 0)) rfl rfl) ?_
          refine .nil ?_
          refine .ret ?_
          exact ⟨_, res_one rfl (q := vi .i64 ((membersF W R ro (ofF W (rep))).getD i 0)) rfl, (by show vi .i64 _ = vi .i64 _; congr 1; rw [← hinv, nextL_drop (i := i) (by omega), if_neg (by rintro (h | h); exact h3 h; rw [h4] at h; cases h), if_pos h5])⟩
        · skip
          have h5b : decide ((membersF W R ro (ofF W (rep))).getD i 0 > rep) = false := decide_eq_false h5
          refine .cond_f (b := decide ((membersF W R ro (ofF W (rep))).getD i 0 > rep)) rfl h5b ?_
          refine .seq ?_
          refine .reg ?_
          refine .q rfl (q_move (q := vi .i64 (f)) rfl rfl) ?_
          refine .q rfl (q_bin (v := .bool ((f == 0))) rfl rfl rfl rfl) ?_
          refine .q rfl (q_assign (q := vb ((f == 0))) rfl rfl) ?_
          refine .nil ?_
          by_cases h6 : f = 0
          · skip
            have h6b : (f == 0) = true := beq_iff_eq.2 h6
            refine .cond_t (b := (f == 0)) rfl h6b ?_
            refine .reg ?_
            refine .q rfl (q_move (q := vi .i64 ((membersF W R ro (ofF W (rep))).getD i 0)) rfl rfl) ?_
            refine .q rfl (q_assign (q := vi .i64 ((membersF W R ro (ofF W (rep))).getD i 0)) rfl rfl) ?_
            refine .nil ?_
            refine .reg ?_
            refine .q rfl (q_bin (v := .int .i64 (((i : Int)) + 1)) rfl rfl rfl (add64 (by omega))) ?_
            refine .q rfl (q_move (q := vi .i64 ((((i : Int)) + 1))) rfl rfl) ?_
            refine .nil ?_
            exact ⟨⟨i + 1, (membersF W R ro (ofF W (rep))).getD i 0⟩, ⟨by omega, by show nextL rep up (List.drop (i + 1) _) ((membersF W R ro (ofF W (rep))).getD i 0) = _; rw [← hinv, nextL_drop (i := i) (by omega)]; rw [if_neg (by rintro (h | h); exact h3 h; rw [h4] at h; cases h), if_neg h5, if_pos h6]⟩, rfl, (by show (membersF W R ro (ofF W rep)).length - (i + 1) < (membersF W R ro (ofF W rep)).length - i; omega)⟩
          · skip
            have h6b : (f == 0) = false := beq_eq_false_iff_ne.2 h6
            refine .cond_f (b := (f == 0)) rfl h6b ?_
            refine .skip ?_
            refine .reg ?_
            refine .q rfl (q_bin (v := .int .i64 (((i : Int)) + 1)) rfl rfl rfl (add64 (by omega))) ?_
            refine .q rfl (q_move (q := vi .i64 ((((i : Int)) + 1))) rfl rfl) ?_
            refine .nil ?_
            exact ⟨⟨i + 1, f⟩, ⟨by omega, by show nextL rep up (List.drop (i + 1) _) (f) = _; rw [← hinv, nextL_drop (i := i) (by omega)]; rw [if_neg (by rintro (h | h); exact h3 h; rw [h4] at h; cases h), if_neg h5, if_neg h6]⟩, rfl, (by show (membersF W R ro (ofF W rep)).length - (i + 1) < (membersF W R ro (ofF W rep)).length - i; omega)⟩
      · skip
        refine .cond_t (b := !(up (((membersF W R ro (ofF W (rep))).getD i 0) - 1).toNat)) rfl (not_f h4) ?_
        refine .skip ?_
        refine .reg ?_
        refine .q rfl (q_bin (v := .int .i64 (((i : Int)) + 1)) rfl rfl rfl (add64 (by omega))) ?_
        refine .q rfl (q_move (q := vi .i64 ((((i : Int)) + 1))) rfl rfl) ?_
        refine .nil ?_
        exact ⟨⟨i + 1, f⟩, ⟨by omega, by show nextL rep up (List.drop (i + 1) _) (f) = _; rw [← hinv, nextL_drop (i := i) (by omega)]; rw [if_pos (.inr h4)]⟩, rfl, (by show (membersF W R ro (ofF W rep)).length - (i + 1) < (membersF W R ro (ofF W rep)).length - i; omega)⟩
  · skip
    have h1b : decide ((i : Int) < (((membersF W R ro (ofF W (rep))).length : Nat) : Int)) = false := decide_eq_false h1
    refine .cond_f (b := decide ((i : Int) < (((membersF W R ro (ofF W (rep))).length : Nat) : Int))) rfl h1b ?_
    refine .exit ?_
    refine .seq ?_
    refine .reg ?_
    refine .q rfl (q_move (q := vi .i64 (f)) rfl rfl) ?_
    refine .q rfl (q_assign (q := vi .i64 (f)) rfl rfl) ?_
    refine .nil ?_
    refine .ret ?_
    exact ⟨_, res_one rfl (q := vi .i64 (f)) rfl, (by show vi .i64 _ = vi .i64 _; congr 1; rw [← hinv, show i = (membersF W R ro (ofF W rep)).length from by omega, List.drop_length]; rfl)⟩

theorem beyond_spec {S : List PV} {W : Nat → Int} {R : Nat → Bool} (hS : IsSt S W R) {A : List PV} {ro : Nat → Bool} (hA : IsB A ro) {B : List PV} {up : Nat → Bool} (hB : IsB B up) (ward : Int) (h0 : 0 ≤ ward) (h4 : ward ≤ 4) (k : Nat) : ACalls Try.prog 23 [.agg S, .agg A, .agg B, vi .i64 ward] [] k (fun p _ _ => p = vi .i64 (beyondF W R ro up ward)) := by
  refine ACalls.of_body (n := 26) Try.func23 rfl rfl ?_
  refine .seq ?_
  refine .reg ?_
  refine .e rfl (step_box (p := .agg (S)) rfl rfl rfl ?_)
  refine .e rfl (step_box (p := .agg (A)) rfl rfl rfl ?_)
  refine .e rfl (step_box (p := .agg (B)) rfl rfl rfl ?_)
  refine .q rfl (q_assign (q := vi .i64 (0)) rfl rfl) ?_
  refine .nil ?_
  refine .seq ?_
  refine .seq ?_
  refine .reg ?_
  refine .q rfl (q_assign (q := vi .i64 (1)) rfl rfl) ?_
  refine .nil ?_
  refine .block ?_
  refine .loopK (S := Nat) [3, 4, 5, 6, 9] (fun n => ⟨26, [(3, vi .i64 (ward)), (4, .ptr 0 (0)), (5, .ptr 1 (0)), (6, .ptr 2 (0)), (9, vi .i64 (((n : Int) + 1)))], [.row (S) 33, .row (A) 23, .row (B) 23], List.replicate k false⟩) (fun n => n ≤ 4 ∧ beyL W R ro up ward (4 - n) ((n : Int) + 1) = beyondF W R ro up ward) (fun n => 4 - n) 0 ⟨Nat.zero_le _, rfl⟩ rfl ?_
  rintro n ⟨hi, hinv⟩
  refine .seq ?_
  refine .seq ?_
  refine .reg ?_
  refine .q rfl (q_move (q := vi .i64 (((n : Int) + 1))) rfl rfl) ?_
  refine .q rfl (q_bin (v := .bool (decide (((n : Int) + 1) ≤ 4))) rfl rfl rfl rfl) ?_
  refine .nil ?_
  by_cases h1 : ((n : Int) + 1) ≤ 4
  · skip
    have h1b : decide (((n : Int) + 1) ≤ 4) = true := decide_eq_true h1
    refine .cond_t (b := decide (((n : Int) + 1) ≤ 4)) rfl h1b ?_
    refine .skip ?_
    refine .seq ?_
    refine .block ?_
    refine .seq ?_
    refine .reg ?_
    refine .q rfl (q_load (q := .agg (S)) rfl rfl (loads_whole (b := 0) (cs := S) tyAgg33 tySz33 rfl hS.len)) ?_
    refine .q rfl (q_load (q := .agg (A)) rfl rfl (loads_whole (b := 1) (cs := A) tyAgg23 tySz23 rfl hA.len)) ?_
    refine .q rfl (q_load (q := .agg (B)) rfl rfl (loads_whole (b := 2) (cs := B) tyAgg23 tySz23 rfl hB.len)) ?_
    refine .q rfl (q_move (q := vi .i64 (ward)) rfl rfl) ?_
    refine .q rfl (q_move (q := vi .i64 (((n : Int) + 1))) rfl rfl) ?_
    refine .q rfl (q_bin (v := .int .i64 (ward + ((n : Int) + 1))) rfl rfl rfl (add64 (by omega))) ?_
    refine .q rfl (q_rem (a := ward + ((n : Int) + 1)) (b := 5) rfl rfl rfl (by decide)) ?_
    refine .q rfl (q_call (ps := [.agg (S), .agg (A), .agg (B), vi .i64 ((ward + ((n : Int) + 1)).tmod 5)]) (r := vi .i64 (masterF W R ro up ((ward + ((n : Int) + 1)).tmod 5))) rfl callable14 rfl ⟨hS.pure, hA.pure, hB.pure, trivial, trivial⟩ trivial (master_spec hS hA hB ((ward + ((n : Int) + 1)).tmod 5))) ?_
    refine .q rfl (q_assign (q := vi .i64 (masterF W R ro up ((ward + ((n : Int) + 1)).tmod 5))) rfl rfl) ?_
    refine .nil ?_
    refine .seq ?_
    refine .reg ?_
    refine .q rfl (q_move (q := vi .i64 (masterF W R ro up ((ward + ((n : Int) + 1)).tmod 5))) rfl rfl) ?_
    refine .q rfl (q_bin (v := .bool ((masterF W R ro up ((ward + ((n : Int) + 1)).tmod 5) != 0))) rfl rfl rfl rfl) ?_
    refine .nil ?_
    by_cases h2 : masterF W R ro up ((ward + ((n : Int) + 1)).tmod 5) = 0
    · skip
      have h2b : (masterF W R ro up ((ward + ((n : Int) + 1)).tmod 5) != 0) = false := bne_eq_false_iff_eq.2 h2
      refine .cond_f (b := (masterF W R ro up ((ward + ((n : Int) + 1)).tmod 5) != 0)) rfl h2b ?_
      refine .skip ?_
      refine .reg ?_
      refine .q rfl (q_move (q := vi .i64 (((n : Int) + 1))) rfl rfl) ?_
      refine .q rfl (q_bin (v := .int .i64 ((((n : Int) + 1)) + 1)) rfl rfl rfl (add64 (by omega))) ?_
      refine .q rfl (q_assign (q := vi .i64 (((((n : Int) + 1)) + 1))) rfl rfl) ?_
      refine .nil ?_
      exact ⟨n + 1, ⟨by omega, by rw [← hinv, show 4 - n = (4 - (n + 1)) + 1 from by omega]; simp only [beyL]; rw [if_neg (by intro h; exact h h2)]; rfl⟩, rfl, (by show 4 - (n + 1) < 4 - n; omega)⟩
    · skip
      have h2b : (masterF W R ro up ((ward + ((n : Int) + 1)).tmod 5) != 0) = true := bne_iff_ne.2 h2
      refine .cond_t (b := (masterF W R ro up ((ward + ((n : Int) + 1)).tmod 5) != 0)) rfl h2b ?_
      refine .seq ?_
      refine .reg ?_
      refine .q rfl (q_move (q := vi .i64 (masterF W R ro up ((ward + ((n : Int) + 1)).tmod 5))) rfl rfl) ?_
      refine .q rfl (q_assign (q := vi .i64 (masterF W R ro up ((ward + ((n : Int) + 1)).tmod 5))) rfl rfl) ?_
      refine .nil ?_
      refine .ret ?_
      exact ⟨_, res_one rfl (q := vi .i64 (masterF W R ro up ((ward + ((n : Int) + 1)).tmod 5))) rfl, (by show vi .i64 _ = vi .i64 _; congr 1; rw [← hinv, show 4 - n = (4 - (n + 1)) + 1 from by omega]; simp only [beyL]; rw [if_pos (by simpa using h2)])⟩
  · skip
    have h1b : decide (((n : Int) + 1) ≤ 4) = false := decide_eq_false h1
    refine .cond_f (b := decide (((n : Int) + 1) ≤ 4)) rfl h1b ?_
    refine .exit ?_
    refine .seq ?_
    refine .reg ?_
    refine .q rfl (q_assign (q := vi .i64 (0)) rfl rfl) ?_
    refine .nil ?_
    refine .ret ?_
    exact ⟨_, res_one rfl (q := vi .i64 (0)) rfl, (by show vi .i64 _ = vi .i64 _; congr 1; rw [← hinv, show 4 - n = 0 from by omega]; rfl)⟩

theorem whom_spec {S : List PV} {W : Nat → Int} {R : Nat → Bool} (hS : IsSt S W R) {A : List PV} {ro : Nat → Bool} (hA : IsB A ro) {B : List PV} {up : Nat → Bool} (hB : IsB B up) (hW : ∀ i, i < 8 → 0 ≤ W i ∧ W i ≤ 4) (rep time : Int) (k : Nat) : ACalls Try.prog 18 [.agg S, .agg A, .agg B, vi .i64 rep, vi .u64 time] [] k (fun p _ _ => p = vi .i64 (whomF W R ro up rep time)) := by
  refine ACalls.of_body (n := 58) Try.func18 rfl rfl ?_
  refine .seq ?_
  refine .reg ?_
  refine .e rfl (step_box (p := .agg (S)) rfl rfl rfl ?_)
  refine .e rfl (step_box (p := .agg (A)) rfl rfl rfl ?_)
  refine .e rfl (step_box (p := .agg (B)) rfl rfl rfl ?_)
  refine .q rfl (q_assign (q := vi .i64 (0)) rfl rfl) ?_
  refine .nil ?_
  refine .seq ?_
  refine .seq ?_
  refine .reg ?_
  refine .q rfl (q_load (q := .agg (S)) rfl rfl (loads_whole (b := 0) (cs := S) tyAgg33 tySz33 rfl hS.len)) ?_
  refine .q rfl (q_load (q := .agg (A)) rfl rfl (loads_whole (b := 1) (cs := A) tyAgg23 tySz23 rfl hA.len)) ?_
  refine .q rfl (q_move (q := vi .i64 (rep)) rfl rfl) ?_
  refine .q rfl (q_call (ps := [.agg (S), .agg (A), vi .i64 (rep)]) (r := vb (hereF R ro (rep))) rfl callable20 rfl ⟨hS.pure, hA.pure, trivial, trivial⟩ trivial (here_spec hS hA (rep))) ?_
  refine .q rfl (q_not (a := hereF R ro (rep)) rfl rfl) ?_
  refine .nil ?_
  rcases Bool.eq_false_or_eq_true (hereF R ro (rep)) with h1 | h1
  · skip
    have hb2 := here_bd h1
    refine .cond_f (b := !(hereF R ro (rep))) rfl (not_t h1) ?_
    refine .skip ?_
    refine .seq ?_
    refine .reg ?_
    refine .q rfl (q_load (q := .agg (S)) rfl rfl (loads_whole (b := 0) (cs := S) tyAgg33 tySz33 rfl hS.len)) ?_
    refine .q rfl (q_load (q := .agg (A)) rfl rfl (loads_whole (b := 1) (cs := A) tyAgg23 tySz23 rfl hA.len)) ?_
    refine .q rfl (q_load (q := .agg (B)) rfl rfl (loads_whole (b := 2) (cs := B) tyAgg23 tySz23 rfl hB.len)) ?_
    refine .q rfl (q_move (q := vi .i64 (rep)) rfl rfl) ?_
    refine .q rfl (q_call (ps := [.agg (S), .agg (A), .agg (B), vi .i64 (rep)]) (r := vi .i64 (nextF W R ro up (rep))) rfl callable16 rfl ⟨hS.pure, hA.pure, hB.pure, trivial, trivial⟩ trivial (next_spec hS hA hB (rep))) ?_
    refine .q rfl (q_assign (q := vi .i64 (nextF W R ro up (rep))) rfl rfl) ?_
    refine .nil ?_
    refine .seq ?_
    refine .reg ?_
    refine .q rfl (q_load (q := .agg (B)) rfl rfl (loads_whole (b := 2) (cs := B) tyAgg23 tySz23 rfl hB.len)) ?_
    refine .e rfl (step_alloc rfl zero23 zeroLeaf23 ?_)
    refine .e rfl (step_store' (q := B) rfl rfl tySz23 rfl rfl rfl hB.len rfl (by decide) (splice_all rfl hB.len) ?_)
    refine .nil ?_
    refine .seq ?_
    refine .reg ?_
    refine .q rfl (q_move (q := vi .i64 (rep)) rfl rfl) ?_
    refine .q rfl (q_bin (v := .int .i64 (rep - 1)) rfl rfl rfl (sub64 (by omega))) ?_
    refine .q rfl (q_iptr (off' := 0 + ((rep - 1)).toNat) rfl tyUn23 tySz4 rfl rfl (by omega) (by omega) (by omega)) ?_
    refine .e rfl (step_store' (q := splice B (0 + ((rep - 1)).toNat) [vb true]) rfl rfl tySz4 rfl rfl rfl rfl rfl (by rw [hB.len]; omega) rfl ?_)
    refine .nil ?_
    refine .seq ?_
    refine .seq ?_
    refine .drw (n := 58) [.agg (S), .agg (A), .agg (splice B (0 + ((rep - 1)).toNat) [vb true]), .agg (S), vi .i64 (rep), vi .i64 (ofF W (rep)), vi .i64 (masterF W R ro (setUp up rep) (ofF W (rep))), vi .i64 (rep), vb ((masterF W R ro (setUp up rep) (ofF W (rep)) != rep))] follows rfl (by kernel_rfl) (by kernel_rfl) ?_ ?_
    · skip
      refine .q rfl (q_load (q := .agg (S)) rfl rfl (loads_whole (b := 0) (cs := S) tyAgg33 tySz33 rfl hS.len)) ?_
      refine .q rfl (q_load (q := .agg (A)) rfl rfl (loads_whole (b := 1) (cs := A) tyAgg23 tySz23 rfl hA.len)) ?_
      refine .q rfl (q_load (q := .agg (splice B (0 + ((rep - 1)).toNat) [vb true])) rfl rfl (loads_whole (b := 3) (cs := splice B (0 + ((rep - 1)).toNat) [vb true]) tyAgg23 tySz23 rfl (hB.set (by omega) (by omega)).len)) ?_
      refine .q rfl (q_load (q := .agg (S)) rfl rfl (loads_whole (b := 0) (cs := S) tyAgg33 tySz33 rfl hS.len)) ?_
      refine .q rfl (q_move (q := vi .i64 (rep)) rfl rfl) ?_
      refine .q rfl (q_call (ps := [.agg (S), vi .i64 (rep)]) (r := vi .i64 (ofF W (rep))) rfl callable12 rfl ⟨hS.pure, trivial, trivial⟩ trivial (of_spec hS (rep))) ?_
      refine .q rfl (q_call (ps := [.agg (S), .agg (A), .agg (splice B (0 + ((rep - 1)).toNat) [vb true]), vi .i64 (ofF W (rep))]) (r := vi .i64 (masterF W R ro (setUp up rep) (ofF W (rep)))) rfl callable14 rfl ⟨hS.pure, hA.pure, (hB.set (by omega) (by omega)).pure, trivial, trivial⟩ trivial (master_spec hS hA (hB.set (by omega) (by omega)) (ofF W (rep)))) ?_
      refine .q rfl (q_move (q := vi .i64 (rep)) rfl rfl) ?_
      refine .q rfl (q_bin (v := .bool ((masterF W R ro (setUp up rep) (ofF W (rep)) != rep))) rfl rfl rfl rfl) ?_
      exact .nil
    by_cases h3 : masterF W R ro (setUp up rep) (ofF W (rep)) = rep
    · skip
      have h3b : (masterF W R ro (setUp up rep) (ofF W (rep)) != rep) = false := bne_eq_false_iff_eq.2 h3
      refine .cond_f (b := (masterF W R ro (setUp up rep) (ofF W (rep)) != rep)) rfl h3b ?_
      refine .skip ?_
      refine .seq ?_
      refine .drw (n := 58) [.agg (S), .agg (A), .agg (B), .agg (S), vi .i64 (rep), vi .i64 (ofF W (rep)), vi .i64 (beyondF W R ro up (ofF W (rep))), vi .i64 (beyondF W R ro up (ofF W (rep)))] follows rfl (by kernel_rfl) (by kernel_rfl) ?_ ?_
      · skip
        refine .q rfl (q_load (q := .agg (S)) rfl rfl (loads_whole (b := 0) (cs := S) tyAgg33 tySz33 rfl hS.len)) ?_
        refine .q rfl (q_load (q := .agg (A)) rfl rfl (loads_whole (b := 1) (cs := A) tyAgg23 tySz23 rfl hA.len)) ?_
        refine .q rfl (q_load (q := .agg (B)) rfl rfl (loads_whole (b := 2) (cs := B) tyAgg23 tySz23 rfl hB.len)) ?_
        refine .q rfl (q_load (q := .agg (S)) rfl rfl (loads_whole (b := 0) (cs := S) tyAgg33 tySz33 rfl hS.len)) ?_
        refine .q rfl (q_move (q := vi .i64 (rep)) rfl rfl) ?_
        refine .q rfl (q_call (ps := [.agg (S), vi .i64 (rep)]) (r := vi .i64 (ofF W (rep))) rfl callable12 rfl ⟨hS.pure, trivial, trivial⟩ trivial (of_spec hS (rep))) ?_
        refine .q rfl (q_call (ps := [.agg (S), .agg (A), .agg (B), vi .i64 (ofF W (rep))]) (r := vi .i64 (beyondF W R ro up (ofF W (rep)))) rfl callable23 rfl ⟨hS.pure, hA.pure, hB.pure, trivial, trivial⟩ trivial (beyond_spec hS hA hB (ofF W (rep)) (of_bd hW _).1 (of_bd hW _).2)) ?_
        refine .q rfl (q_assign (q := vi .i64 (beyondF W R ro up (ofF W (rep)))) rfl rfl) ?_
        exact .nil
      refine .seq ?_
      refine .seq ?_
      refine .reg ?_
      refine .q rfl (q_move (q := vi .i64 (nextF W R ro up (rep))) rfl rfl) ?_
      refine .q rfl (q_bin (v := .bool ((nextF W R ro up (rep) == 0))) rfl rfl rfl rfl) ?_
      refine .q rfl (q_move (q := vb ((nextF W R ro up (rep) == 0))) rfl rfl) ?_
      by_cases h4 : nextF W R ro up (rep) = 0
      · skip
        have h4b : (nextF W R ro up (rep) == 0) = true := beq_iff_eq.2 h4
        refine .no (guard_n rfl h4b) ?_
        refine .no (guard_n rfl h4b) ?_
        refine .no (guard_n rfl h4b) ?_
        refine .no (guard_n rfl h4b) ?_
        refine .no rfl ?_
        refine .no rfl ?_
        refine .no (guard_n rfl h4b) ?_
        refine .q rfl (q_pick_t (b := (nextF W R ro up (rep) == 0)) (q := vb (true)) rfl rfl h4b rfl) ?_
        refine .nil ?_
        refine .cond (b := true) rfl ?_
        refine .seq ?_
        refine .reg ?_
        refine .q rfl (q_move (q := vi .i64 (beyondF W R ro up (ofF W (rep)))) rfl rfl) ?_
        refine .q rfl (q_assign (q := vi .i64 (beyondF W R ro up (ofF W (rep)))) rfl rfl) ?_
        refine .nil ?_
        refine .ret ?_
        exact ⟨_, res_one rfl (q := vi .i64 (beyondF W R ro up (ofF W (rep)))) rfl, (by show vi .i64 _ = vi .i64 _; congr 1; unfold whomF; rw [if_neg (by rw [h1]; simp), if_neg (by exact fun h => h h3), if_pos (.inl h4)])⟩
      · skip
        have h4b : (nextF W R ro up (rep) == 0) = false := beq_eq_false_iff_ne.2 h4
        refine .q (guard_y rfl h4b) (q_move (q := vi .u64 (time)) rfl rfl) ?_
        refine .q (guard_y rfl h4b) (q_rem (a := time) (b := 2) rfl rfl rfl (by decide)) ?_
        refine .q (guard_y rfl h4b) (q_bin (v := .bool (((time).tmod 2 == 1))) rfl rfl rfl rfl) ?_
        refine .q (guard_y rfl h4b) (q_move (q := vb (((time).tmod 2 == 1))) rfl rfl) ?_
        by_cases h5 : (time).tmod 2 = 1
        · skip
          have h5b : ((time).tmod 2 == 1) = true := beq_iff_eq.2 h5
          refine .q (guard_y rfl h5b) (q_move (q := vi .i64 (beyondF W R ro up (ofF W (rep)))) rfl rfl) ?_
          refine .q (guard_y rfl h5b) (q_bin (v := .bool ((beyondF W R ro up (ofF W (rep)) != 0))) rfl rfl rfl rfl) ?_
          refine .q (guard_y rfl h4b) (q_pick_t (b := ((time).tmod 2 == 1)) (q := vb ((beyondF W R ro up (ofF W (rep)) != 0))) rfl rfl h5b rfl) ?_
          refine .q rfl (q_pick_f (b := (nextF W R ro up (rep) == 0)) (q := vb ((beyondF W R ro up (ofF W (rep)) != 0))) rfl rfl h4b rfl) ?_
          refine .nil ?_
          by_cases h6 : beyondF W R ro up (ofF W (rep)) = 0
          · skip
            have h6b : (beyondF W R ro up (ofF W (rep)) != 0) = false := bne_eq_false_iff_eq.2 h6
            refine .cond_f (b := (beyondF W R ro up (ofF W (rep)) != 0)) rfl h6b ?_
            refine .skip ?_
            refine .seq ?_
            refine .reg ?_
            refine .q rfl (q_move (q := vi .i64 (nextF W R ro up (rep))) rfl rfl) ?_
            refine .q rfl (q_assign (q := vi .i64 (nextF W R ro up (rep))) rfl rfl) ?_
            refine .nil ?_
            refine .ret ?_
            exact ⟨_, res_one rfl (q := vi .i64 (nextF W R ro up (rep))) rfl, (by show vi .i64 _ = vi .i64 _; congr 1; unfold whomF; rw [if_neg (by rw [h1]; simp), if_neg (by exact fun h => h h3), if_neg (by rintro (h | h); exact h4 h; exact h.2 h6)])⟩
          · skip
            have h6b : (beyondF W R ro up (ofF W (rep)) != 0) = true := bne_iff_ne.2 h6
            refine .cond_t (b := (beyondF W R ro up (ofF W (rep)) != 0)) rfl h6b ?_
            refine .seq ?_
            refine .reg ?_
            refine .q rfl (q_move (q := vi .i64 (beyondF W R ro up (ofF W (rep)))) rfl rfl) ?_
            refine .q rfl (q_assign (q := vi .i64 (beyondF W R ro up (ofF W (rep)))) rfl rfl) ?_
            refine .nil ?_
            refine .ret ?_
            exact ⟨_, res_one rfl (q := vi .i64 (beyondF W R ro up (ofF W (rep)))) rfl, (by show vi .i64 _ = vi .i64 _; congr 1; unfold whomF; rw [if_neg (by rw [h1]; simp), if_neg (by exact fun h => h h3), if_pos (.inr ⟨h5, h6⟩)])⟩
        · skip
          have h5b : ((time).tmod 2 == 1) = false := beq_eq_false_iff_ne.2 h5
          refine .no (guard_n rfl h5b) ?_
          refine .no (guard_n rfl h5b) ?_
          refine .q (guard_y rfl h4b) (q_pick_f (b := ((time).tmod 2 == 1)) (q := vb (false)) rfl rfl h5b rfl) ?_
          refine .q rfl (q_pick_f (b := (nextF W R ro up (rep) == 0)) (q := vb (false)) rfl rfl h4b rfl) ?_
          refine .nil ?_
          refine .cond (b := false) rfl ?_
          refine .skip ?_
          refine .seq ?_
          refine .reg ?_
          refine .q rfl (q_move (q := vi .i64 (nextF W R ro up (rep))) rfl rfl) ?_
          refine .q rfl (q_assign (q := vi .i64 (nextF W R ro up (rep))) rfl rfl) ?_
          refine .nil ?_
          refine .ret ?_
          exact ⟨_, res_one rfl (q := vi .i64 (nextF W R ro up (rep))) rfl, (by show vi .i64 _ = vi .i64 _; congr 1; unfold whomF; rw [if_neg (by rw [h1]; simp), if_neg (by exact fun h => h h3), if_neg (by rintro (h | h); exact h4 h; exact h5 h.1)])⟩
    · skip
      have h3b : (masterF W R ro (setUp up rep) (ofF W (rep)) != rep) = true := bne_iff_ne.2 h3
      refine .cond_t (b := (masterF W R ro (setUp up rep) (ofF W (rep)) != rep)) rfl h3b ?_
      refine .seq ?_
      refine .reg ?_
      refine .q rfl (q_move (q := vi .i64 (nextF W R ro up (rep))) rfl rfl) ?_
      refine .q rfl (q_assign (q := vi .i64 (nextF W R ro up (rep))) rfl rfl) ?_
      refine .nil ?_
      refine .ret ?_
      exact ⟨_, res_one rfl (q := vi .i64 (nextF W R ro up (rep))) rfl, (by show vi .i64 _ = vi .i64 _; congr 1; unfold whomF; rw [if_neg (by rw [h1]; simp), if_pos (by exact h3)])⟩
  · skip
    refine .cond_t (b := !(hereF R ro (rep))) rfl (not_f h1) ?_
    refine .seq ?_
    refine .reg ?_
    refine .q rfl (q_assign (q := vi .i64 (0)) rfl rfl) ?_
    refine .nil ?_
    refine .ret ?_
    exact ⟨_, res_one rfl (q := vi .i64 (0)) rfl, (by show vi .i64 _ = vi .i64 _; congr 1; unfold whomF; rw [if_pos h1])⟩

theorem of_ref {S : List PV} {W : Nat → Int} {R : Nat → Bool} (hS : IsSt S W R) (rep : Int) (k : Nat) : ACalls Try.prog 13 [.agg S, vi .i64 rep] [] k (fun p _ _ => p = vi .i64 (ofF W rep)) := by
  refine ACalls.of_body (n := 16) Try.func13 rfl rfl ?_
  refine .seq ?_
  refine .reg ?_
  refine .e rfl (step_box (p := .agg (S)) rfl rfl rfl ?_)
  refine .q rfl (q_assign (q := vi .i64 (0)) rfl rfl) ?_
  refine .nil ?_
  refine .seq ?_
  refine .seq ?_
  refine .reg ?_
  refine .q rfl (q_move (q := vi .i64 (rep)) rfl rfl) ?_
  refine .q rfl (q_bin (v := .bool (decide (rep < 1))) rfl rfl rfl rfl) ?_
  refine .q rfl (q_move (q := vb (decide (rep < 1))) rfl rfl) ?_
  by_cases h1 : rep < 1
  · skip
    have h1b : decide (rep < 1) = true := decide_eq_true h1
    refine .no (guard_n rfl h1b) ?_
    refine .no (guard_n rfl h1b) ?_
    refine .q rfl (q_pick_t (b := decide (rep < 1)) (q := vb (true)) rfl rfl h1b rfl) ?_
    refine .nil ?_
    refine .cond (b := true) rfl ?_
    refine .seq ?_
    refine .reg ?_
    refine .q rfl (q_assign (q := vi .i64 (0)) rfl rfl) ?_
    refine .nil ?_
    refine .ret ?_
    exact ⟨_, res_one rfl (q := vi .i64 (0)) rfl, (by show vi .i64 _ = vi .i64 _; congr 1; unfold ofF; first | rw [if_pos (by omega)] | rw [if_neg (by omega)])⟩
  · skip
    have h1b : decide (rep < 1) = false := decide_eq_false h1
    refine .q (guard_y rfl h1b) (q_move (q := vi .i64 (rep)) rfl rfl) ?_
    refine .q (guard_y rfl h1b) (q_bin (v := .bool (decide (rep > 8))) rfl rfl rfl rfl) ?_
    refine .q rfl (q_pick_f (b := decide (rep < 1)) (q := vb (decide (rep > 8))) rfl rfl h1b rfl) ?_
    refine .nil ?_
    by_cases h2 : rep > 8
    · skip
      have h2b : decide (rep > 8) = true := decide_eq_true h2
      refine .cond_t (b := decide (rep > 8)) rfl h2b ?_
      refine .seq ?_
      refine .reg ?_
      refine .q rfl (q_assign (q := vi .i64 (0)) rfl rfl) ?_
      refine .nil ?_
      refine .ret ?_
      exact ⟨_, res_one rfl (q := vi .i64 (0)) rfl, (by show vi .i64 _ = vi .i64 _; congr 1; unfold ofF; first | rw [if_pos (by omega)] | rw [if_neg (by omega)])⟩
    · skip
      have h2b : decide (rep > 8) = false := decide_eq_false h2
      refine .cond_f (b := decide (rep > 8)) rfl h2b ?_
      refine .skip ?_
      refine .seq ?_
      refine .reg ?_
      refine .q rfl (q_move (q := vi .i64 (rep)) rfl rfl) ?_
      refine .q rfl (q_bin (v := .int .i64 (rep - 1)) rfl rfl rfl (sub64 (by omega))) ?_
      refine .q rfl (q_field (fo := 10) rfl fo33_3 rfl) ?_
      refine .q rfl (q_iptr (off' := 10 + ((rep - 1)).toNat) rfl tyUn22 tySz3 rfl rfl (by omega) (by omega) (by omega)) ?_
      refine .q rfl (q_load (q := vi .i64 (W ((rep - 1)).toNat)) rfl rfl (loads_cell (b := 0) (off := 10 + ((rep - 1)).toNat) (cs := S) tyAgg3 rfl (hS.w ((rep - 1)).toNat (by omega)))) ?_
      refine .q rfl (q_assign (q := vi .i64 (W ((rep - 1)).toNat)) rfl rfl) ?_
      refine .nil ?_
      refine .ret ?_
      exact ⟨_, res_one rfl (q := vi .i64 (W ((rep - 1)).toNat)) rfl, (by show vi .i64 _ = vi .i64 _; congr 1; unfold ofF; first | rw [if_pos (by omega)] | rw [if_neg (by omega)])⟩

theorem members_ref {S : List PV} {W : Nat → Int} {R : Nat → Bool} (hS : IsSt S W R) {A : List PV} {ro : Nat → Bool} (hA : IsB A ro) (ward : Int) (k : Nat) : ACalls Try.prog 11 [.agg S, .agg A, vi .i64 ward] [] k (fun p _ _ => p = .tr (membersF W R ro ward).length ((membersF W R ro ward).map (vi .i64)) .no) := by
  refine ACalls.of_body (n := 37) Try.func11 rfl rfl ?_
  refine .seq ?_
  refine .reg ?_
  refine .e rfl (step_box (p := .agg (S)) rfl rfl rfl ?_)
  refine .e rfl (step_box (p := .agg (A)) rfl rfl rfl ?_)
  refine .q rfl (q_assign (q := .tr (0) ([]) .full) rfl rfl) ?_
  refine .nil ?_
  refine .seq ?_
  refine .reg ?_
  refine .q rfl (q_assign (q := .tr (0) ([]) .full) rfl rfl) ?_
  refine .nil ?_
  refine .seq ?_
  refine .seq ?_
  refine .reg ?_
  refine .q rfl (q_assign (q := vi .i64 (0)) rfl rfl) ?_
  refine .nil ?_
  refine .block ?_
  refine .loopK (S := Nat × Nat × List PV × Tail × List Bool) [2, 3, 4, 7, 8] (fun ⟨i, ln, cs, tl, ts⟩ => ⟨37, [(2, vi .i64 (ward)), (3, .ptr 0 (0)), (4, .ptr 1 (0)), (7, .tr (ln) (cs) tl), (8, vi .i64 ((i : Int)))], [.row (S) 33, .row (A) 23], ts⟩) (fun ⟨i, ln, cs, tl, ts⟩ => i ≤ 8 ∧ AppOK tl ts 1 ∧ ln = (memTo W R ro ward i).length ∧ cs = (memTo W R ro ward i).map (vi .i64)) (fun ⟨i, ln, cs, tl, ts⟩ => 8 - i) ⟨0, 0, [], .full, List.replicate k false⟩ ⟨by omega, .inl rfl, rfl, rfl⟩ rfl ?_
  rintro ⟨i, ln, cs, tl, ts⟩ ⟨hi, hap, hl, hc⟩
  have hln : ln ≤ i := by rw [hl]; exact memTo_len _ _ _ _ _
  refine .seq ?_
  refine .seq ?_
  refine .reg ?_
  refine .q rfl (q_move (q := vi .i64 ((i : Int))) rfl rfl) ?_
  refine .q rfl (q_bin (v := .bool (decide ((i : Int) < 8))) rfl rfl rfl rfl) ?_
  refine .nil ?_
  by_cases h1 : (i : Int) < 8
  · skip
    have h1b : decide ((i : Int) < 8) = true := decide_eq_true h1
    refine .cond_t (b := decide ((i : Int) < 8)) rfl h1b ?_
    refine .skip ?_
    refine .seq ?_
    refine .block ?_
    refine .seq ?_
    refine .reg ?_
    refine .q rfl (q_move (q := vi .i64 ((i : Int))) rfl rfl) ?_
    refine .q rfl (q_iptr (off' := 0 + ((i : Int)).toNat) rfl tyUn23 tySz4 rfl rfl (by omega) (by omega) (by omega)) ?_
    refine .q rfl (q_load (q := vb (ro i)) rfl rfl (loads_cell (b := 1) (off := 0 + ((i : Int)).toNat) (cs := A) tyAgg4 rfl (by rw [Nat.zero_add]; exact hA.get i (by omega)))) ?_
    refine .q rfl (q_move (q := vb (ro i)) rfl rfl) ?_
    rcases Bool.eq_false_or_eq_true (ro i) with h2 | h2
    · skip
      refine .q (guard_y rfl h2) (q_move (q := vi .i64 ((i : Int))) rfl rfl) ?_
      refine .q (guard_y rfl h2) (q_field (fo := 18) rfl fo33_4 rfl) ?_
      refine .q (guard_y rfl h2) (q_iptr (off' := 18 + ((i : Int)).toNat) rfl tyUn23 tySz4 rfl rfl (by omega) (by omega) (by omega)) ?_
      refine .q (guard_y rfl h2) (q_load (q := vb (R i)) rfl rfl (loads_cell (b := 0) (off := 18 + ((i : Int)).toNat) (cs := S) tyAgg4 rfl (hS.r i (by omega)))) ?_
      refine .q (guard_y rfl h2) (q_not (a := R i) rfl rfl) ?_
      refine .q rfl (q_pick_t (b := ro i) (q := vb (!(R i))) rfl rfl h2 rfl) ?_
      refine .q rfl (q_move (q := vb (!(R i))) rfl rfl) ?_
      rcases Bool.eq_false_or_eq_true (R i) with h3 | h3
      · skip
        refine .no (guard_n rfl (not_t h3)) ?_
        refine .no (guard_n rfl (not_t h3)) ?_
        refine .no (guard_n rfl (not_t h3)) ?_
        refine .no (guard_n rfl (not_t h3)) ?_
        refine .no (guard_n rfl (not_t h3)) ?_
        refine .no (guard_n rfl (not_t h3)) ?_
        refine .q rfl (q_pick_f (b := !(R i)) (q := vb (false)) rfl rfl (not_t h3) rfl) ?_
        refine .nil ?_
        refine .cond (b := false) rfl ?_
        refine .skip ?_
        refine .reg ?_
        refine .q rfl (q_move (q := vi .i64 ((i : Int))) rfl rfl) ?_
        refine .q rfl (q_bin (v := .int .i64 (((i : Int)) + 1)) rfl rfl rfl (add64 (by omega))) ?_
        refine .q rfl (q_assign (q := vi .i64 ((((i : Int)) + 1))) rfl rfl) ?_
        refine .nil ?_
        exact ⟨⟨i + 1, ln, cs, tl, ts⟩, ⟨by omega, hap, by rw [memTo_succ, here_at (by omega), of_at (by omega)]; simp [hl, h2, h3], by rw [memTo_succ, here_at (by omega), of_at (by omega)]; simp [hc, h2, h3]⟩, rfl, (by show 8 - (i + 1) < 8 - i; omega)⟩
      · skip
        refine .q (guard_y rfl (not_f h3)) (q_move (q := vi .i64 ((i : Int))) rfl rfl) ?_
        refine .q (guard_y rfl (not_f h3)) (q_field (fo := 10) rfl fo33_3 rfl) ?_
        refine .q (guard_y rfl (not_f h3)) (q_iptr (off' := 10 + ((i : Int)).toNat) rfl tyUn22 tySz3 rfl rfl (by omega) (by omega) (by omega)) ?_
        refine .q (guard_y rfl (not_f h3)) (q_load (q := vi .i64 (W i)) rfl rfl (loads_cell (b := 0) (off := 10 + ((i : Int)).toNat) (cs := S) tyAgg3 rfl (hS.w i (by omega)))) ?_
        refine .q (guard_y rfl (not_f h3)) (q_move (q := vi .i64 (ward)) rfl rfl) ?_
        refine .q (guard_y rfl (not_f h3)) (q_bin (v := .bool ((W i == ward))) rfl rfl rfl rfl) ?_
        refine .q rfl (q_pick_t (b := !(R i)) (q := vb ((W i == ward))) rfl rfl (not_f h3) rfl) ?_
        refine .nil ?_
        by_cases h4 : W i = ward
        · skip
          have h4b : (W i == ward) = true := beq_iff_eq.2 h4
          refine .cond_t (b := (W i == ward)) rfl h4b ?_
          refine .reg ?_
          refine .q rfl (q_move (q := .tr (ln) (cs) tl) rfl rfl) ?_
          refine .q rfl (q_move (q := vi .i64 ((i : Int))) rfl rfl) ?_
          refine .q rfl (q_bin (v := .int .i64 (((i : Int)) + 1)) rfl rfl rfl (add64 (by omega))) ?_
          refine .q rfl (q_lit (ps := [vi .i64 ((((i : Int)) + 1))]) rfl tyUn35 tySz3 (by decide) (by decide) zero3 rfl zeroLeaf3 (by decide) rfl rfl (fun p hp => by simp at hp; subst hp; exact ⟨rfl, rfl⟩)) ?_
          refine .e rfl (step_append (len := ln) (m := 1) (sz := 1) (cs := cs) (news := [vi .i64 ((((i : Int)) + 1))]) rfl tyUn35 elem3 srcTy35 rfl (by rw [hc, hl]; simp) (hap) (src_tr rfl rfl (by simp [Leafs, leaf])) (by omega) ?_)
          intro tl5 ts6 hap7 hke8
          refine .q rfl (q_assign (q := .tr (ln + 1) (cs ++ [vi .i64 ((((i : Int)) + 1))]) tl5) rfl rfl) ?_
          refine .nil ?_
          refine .reg ?_
          refine .q rfl (q_move (q := vi .i64 ((i : Int))) rfl rfl) ?_
          refine .q rfl (q_bin (v := .int .i64 (((i : Int)) + 1)) rfl rfl rfl (add64 (by omega))) ?_
          refine .q rfl (q_assign (q := vi .i64 ((((i : Int)) + 1))) rfl rfl) ?_
          refine .nil ?_
          exact ⟨⟨i + 1, ln + 1, cs ++ [vi .i64 ((((i : Int)) + 1))], tl5, ts6⟩, ⟨by omega, hap7, by rw [memTo_succ, here_at (by omega), of_at (by omega)]; simp [hl, h2, h3, h4b], by rw [memTo_succ, here_at (by omega), of_at (by omega)]; simp [hc, h2, h3, h4b]⟩, rfl, (by show 8 - (i + 1) < 8 - i; omega)⟩
        · skip
          have h4b : (W i == ward) = false := beq_eq_false_iff_ne.2 h4
          refine .cond_f (b := (W i == ward)) rfl h4b ?_
          refine .skip ?_
          refine .reg ?_
          refine .q rfl (q_move (q := vi .i64 ((i : Int))) rfl rfl) ?_
          refine .q rfl (q_bin (v := .int .i64 (((i : Int)) + 1)) rfl rfl rfl (add64 (by omega))) ?_
          refine .q rfl (q_assign (q := vi .i64 ((((i : Int)) + 1))) rfl rfl) ?_
          refine .nil ?_
          exact ⟨⟨i + 1, ln, cs, tl, ts⟩, ⟨by omega, hap, by rw [memTo_succ, here_at (by omega), of_at (by omega)]; simp [hl, h2, h3, h4b], by rw [memTo_succ, here_at (by omega), of_at (by omega)]; simp [hc, h2, h3, h4b]⟩, rfl, (by show 8 - (i + 1) < 8 - i; omega)⟩
    · skip
      refine .no (guard_n rfl h2) ?_
      refine .no (guard_n rfl h2) ?_
      refine .no (guard_n rfl h2) ?_
      refine .no (guard_n rfl h2) ?_
      refine .no (guard_n rfl h2) ?_
      refine .q rfl (q_pick_f (b := ro i) (q := vb (false)) rfl rfl h2 rfl) ?_
      refine .q rfl (q_move (q := vb (false)) rfl rfl) ?_
      refine .no rfl ?_
      refine .no rfl ?_
      refine .no rfl ?_
      refine .no rfl ?_
      refine .no rfl ?_
      refine .no rfl ?_
      refine .q rfl (q_pick_f (b := false) (q := vb (false)) rfl rfl rfl rfl) ?_
      refine .nil ?_
      refine .cond (b := false) rfl ?_
      refine .skip ?_
      refine .reg ?_
      refine .q rfl (q_move (q := vi .i64 ((i : Int))) rfl rfl) ?_
      refine .q rfl (q_bin (v := .int .i64 (((i : Int)) + 1)) rfl rfl rfl (add64 (by omega))) ?_
      refine .q rfl (q_assign (q := vi .i64 ((((i : Int)) + 1))) rfl rfl) ?_
      refine .nil ?_
      exact ⟨⟨i + 1, ln, cs, tl, ts⟩, ⟨by omega, hap, by rw [memTo_succ, here_at (by omega), of_at (by omega)]; simp [hl, h2], by rw [memTo_succ, here_at (by omega), of_at (by omega)]; simp [hc, h2]⟩, rfl, (by show 8 - (i + 1) < 8 - i; omega)⟩
  · skip
    have h1b : decide ((i : Int) < 8) = false := decide_eq_false h1
    refine .cond_f (b := decide ((i : Int) < 8)) rfl h1b ?_
    refine .exit ?_
    refine .seq ?_
    refine .reg ?_
    refine .q rfl (q_move (q := .tr (ln) (cs) tl) rfl rfl) ?_
    refine .q rfl (q_assign (q := .tr (ln) (cs) tl) rfl rfl) ?_
    refine .nil ?_
    refine .ret ?_
    exact ⟨_, res_weak rfl rfl, (by rw [hl, hc, show i = 8 from by omega]; rfl)⟩

theorem first_ref {l : List Int} (hl : ∀ m, m ∈ l → 1 ≤ m ∧ m ≤ 8) (hlen : l.length ≤ 100) {B : List PV} {up : Nat → Bool} (hB : IsB B up) (k : Nat) : ACalls Try.prog 21 [.tr ((l).length) ((l).map (vi .i64)) .no, .agg B] [] k (fun p _ _ => p = vi .i64 (firstF l up)) := by
  refine ACalls.of_body (n := 23) Try.func21 rfl rfl ?_
  refine .seq ?_
  refine .reg ?_
  refine .e rfl (step_box (p := .agg (B)) rfl rfl rfl ?_)
  refine .q rfl (q_assign (q := vi .i64 (0)) rfl rfl) ?_
  refine .nil ?_
  refine .seq ?_
  refine .seq ?_
  refine .reg ?_
  refine .q rfl (q_assign (q := vi .i64 (0)) rfl rfl) ?_
  refine .nil ?_
  refine .block ?_
  refine .loopK (S := Nat) [0, 3, 5] (fun i => ⟨23, [(0, .tr ((l).length) ((l).map (vi .i64)) .no), (3, .ptr 0 (0)), (5, vi .i64 ((i : Int)))], [.row (B) 23], List.replicate k false⟩) (fun i => i ≤ l.length ∧ firstF (l.drop i) up = firstF l up) (fun i => l.length - i) 0 ⟨Nat.zero_le _, rfl⟩ rfl ?_
  rintro i ⟨hi, hinv⟩
  refine .seq ?_
  refine .seq ?_
  refine .reg ?_
  refine .q rfl (q_move (q := vi .i64 ((i : Int))) rfl rfl) ?_
  refine .q rfl (q_move (q := .tr ((l).length) ((l).map (vi .i64)) .no) rfl rfl) ?_
  refine .q rfl (q_len_tr rfl tyUn35 rfl) ?_
  refine .q rfl (q_bin (v := .bool (decide ((i : Int) < (((l).length : Nat) : Int)))) rfl rfl rfl rfl) ?_
  refine .nil ?_
  by_cases h1 : (i : Int) < (((l).length : Nat) : Int)
  · skip
    have h1b : decide ((i : Int) < (((l).length : Nat) : Int)) = true := decide_eq_true h1
    refine .cond_t (b := decide ((i : Int) < (((l).length : Nat) : Int))) rfl h1b ?_
    refine .skip ?_
    refine .seq ?_
    refine .block ?_
    refine .seq ?_
    refine .reg ?_
    refine .q rfl (q_move (q := .tr ((l).length) ((l).map (vi .i64)) .no) rfl rfl) ?_
    refine .q rfl (q_move (q := vi .i64 ((i : Int))) rfl rfl) ?_
    refine .q rfl (q_index_tr (i := (i : Int)) rfl tyUn35 tySz3 rfl rfl (by omega) (by omega)) ?_
    refine .q rfl (q_load (q := vi .i64 ((l).getD i 0)) rfl rfl (loads_fzcell tyAgg3 (cell_mapN (by omega)))) ?_
    have hm2 := atIn hl (i := i) (by omega)
    refine .q rfl (q_bin (v := .int .i64 (((l).getD i 0) - 1)) rfl rfl rfl (sub64 (by omega))) ?_
    refine .q rfl (q_iptr (off' := 0 + (((l).getD i 0) - 1).toNat) rfl tyUn23 tySz4 rfl rfl (by omega) (by omega) (by omega)) ?_
    refine .q rfl (q_load (q := vb (up (((l).getD i 0) - 1).toNat)) rfl rfl (loads_cell (b := 0) (off := 0 + (((l).getD i 0) - 1).toNat) (cs := B) tyAgg4 rfl (by rw [Nat.zero_add]; exact hB.get (((l).getD i 0) - 1).toNat (by omega)))) ?_
    refine .nil ?_
    rcases Bool.eq_false_or_eq_true (up (((l).getD i 0) - 1).toNat) with h3 | h3
    · skip
      refine .cond_t (b := up (((l).getD i 0) - 1).toNat) rfl h3 ?_
      refine .seq ?_
      refine .reg ?_
      refine .q rfl (q_move (q := .tr ((l).length) ((l).map (vi .i64)) .no) rfl rfl) ?_
      refine .q rfl (q_move (q := vi .i64 ((i : Int))) rfl rfl) ?_
      refine .q rfl (q_index_tr (i := (i : Int)) rfl tyUn35 tySz3 rfl rfl (by omega) (by omega)) ?_
      refine .q rfl (q_load (q := vi .i64 ((l).getD i 0)) rfl rfl (loads_fzcell tyAgg3 (cell_mapN (by omega)))) ?_
      have hm4 := atIn hl (i := i) (by omega)
      refine .q rfl (q_assign (q := vi .i64 ((l).getD i 0)) rfl rfl) ?_
      refine .nil ?_
      refine .ret ?_
      exact ⟨_, res_one rfl (q := vi .i64 ((l).getD i 0)) rfl, (by show vi .i64 _ = vi .i64 _; congr 1; rw [← hinv, firstF_drop (i := i) (by omega), if_pos h3])⟩
    · skip
      refine .cond_f (b := up (((l).getD i 0) - 1).toNat) rfl h3 ?_
      refine .skip ?_
      refine .reg ?_
      refine .q rfl (q_move (q := vi .i64 ((i : Int))) rfl rfl) ?_
      refine .q rfl (q_bin (v := .int .i64 (((i : Int)) + 1)) rfl rfl rfl (add64 (by omega))) ?_
      refine .q rfl (q_assign (q := vi .i64 ((((i : Int)) + 1))) rfl rfl) ?_
      refine .nil ?_
      exact ⟨i + 1, ⟨by omega, by rw [← hinv, firstF_drop (i := i) (by omega), if_neg (by rw [h3]; simp)]⟩, rfl, (by show l.length - (i + 1) < l.length - i; omega)⟩
  · skip
    have h1b : decide ((i : Int) < (((l).length : Nat) : Int)) = false := decide_eq_false h1
    refine .cond_f (b := decide ((i : Int) < (((l).length : Nat) : Int))) rfl h1b ?_
    refine .exit ?_
    refine .seq ?_
    refine .reg ?_
    refine .q rfl (q_assign (q := vi .i64 (0)) rfl rfl) ?_
    refine .nil ?_
    refine .ret ?_
    exact ⟨_, res_one rfl (q := vi .i64 (0)) rfl, (by show vi .i64 _ = vi .i64 _; congr 1; rw [← hinv, show i = l.length from by omega, List.drop_length]; rfl)⟩

theorem master_ref {S : List PV} {W : Nat → Int} {R : Nat → Bool} (hS : IsSt S W R) {A : List PV} {ro : Nat → Bool} (hA : IsB A ro) {B : List PV} {up : Nat → Bool} (hB : IsB B up) (ward : Int) (k : Nat) : ACalls Try.prog 15 [.agg S, .agg A, .agg B, vi .i64 ward] [] k (fun p _ _ => p = vi .i64 (masterF W R ro up ward)) := by
  refine ACalls.of_body (n := 15) Try.func15 rfl rfl ?_
  refine .seq ?_
  refine .reg ?_
  refine .e rfl (step_box (p := .agg (S)) rfl rfl rfl ?_)
  refine .e rfl (step_box (p := .agg (A)) rfl rfl rfl ?_)
  refine .e rfl (step_box (p := .agg (B)) rfl rfl rfl ?_)
  refine .q rfl (q_assign (q := vi .i64 (0)) rfl rfl) ?_
  refine .nil ?_
  refine .seq ?_
  refine .drw (n := 15) [.agg (S), .agg (A), vi .i64 (ward), .tr ((membersF W R ro (ward)).length) ((membersF W R ro (ward)).map (vi .i64)) .no, .agg (B), vi .i64 (firstF (membersF W R ro (ward)) up), vi .i64 (firstF (membersF W R ro (ward)) up)] follows rfl (by kernel_rfl) (by kernel_rfl) ?_ ?_
  · skip
    refine .q rfl (q_load (q := .agg (S)) rfl rfl (loads_whole (b := 0) (cs := S) tyAgg33 tySz33 rfl hS.len)) ?_
    refine .q rfl (q_load (q := .agg (A)) rfl rfl (loads_whole (b := 1) (cs := A) tyAgg23 tySz23 rfl hA.len)) ?_
    refine .q rfl (q_move (q := vi .i64 (ward)) rfl rfl) ?_
    refine .q rfl (q_call (ps := [.agg (S), .agg (A), vi .i64 (ward)]) (r := .tr ((membersF W R ro (ward)).length) ((membersF W R ro (ward)).map (vi .i64)) .no) rfl callable11 rfl ⟨hS.pure, hA.pure, trivial, trivial⟩ ⟨rfl, (Pures_iff.2 (fun p hp => by simp at hp; obtain ⟨x, _, rfl⟩ := hp; trivial))⟩ (members_ref hS hA (ward))) ?_
    refine .q rfl (q_load (q := .agg (B)) rfl rfl (loads_whole (b := 2) (cs := B) tyAgg23 tySz23 rfl hB.len)) ?_
    refine .q rfl (q_call (ps := [.tr ((membersF W R ro (ward)).length) ((membersF W R ro (ward)).map (vi .i64)) .no, .agg (B)]) (r := vi .i64 (firstF (membersF W R ro (ward)) up)) rfl callable21 rfl ⟨⟨rfl, (Pures_iff.2 (fun p hp => by simp at hp; obtain ⟨x, _, rfl⟩ := hp; trivial))⟩, hB.pure, trivial⟩ trivial (first_ref (l := membersF W R ro (ward)) (fun m h => members_lo h) (Nat.le_trans (ring_len W R ro _) (by decide)) hB)) ?_
    refine .q rfl (q_assign (q := vi .i64 (firstF (membersF W R ro (ward)) up)) rfl rfl) ?_
    exact .nil
  refine .ret ?_
  exact ⟨_, res_one rfl (q := vi .i64 (firstF (membersF W R ro (ward)) up)) rfl, rfl⟩

theorem ring_ref {S : List PV} {W : Nat → Int} {R : Nat → Bool} (hS : IsSt S W R) {A : List PV} {ro : Nat → Bool} (hA : IsB A ro) (rep : Int) (k : Nat) : ACalls Try.prog 22 [.agg S, .agg A, vi .i64 rep] [] k (fun p _ _ => p = .tr (ringF W R ro rep).length ((ringF W R ro rep).map (vi .i64)) .no) := by
  have hl : ∀ m, m ∈ membersF W R ro (ofF W rep) → 1 ≤ m ∧ m ≤ 8 := fun m h => members_lo h
  have hlen := ring_len W R ro (ofF W rep)
  refine ACalls.of_body (n := 56) Try.func22 rfl rfl ?_
  refine .seq ?_
  refine .reg ?_
  refine .e rfl (step_box (p := .agg (S)) rfl rfl rfl ?_)
  refine .e rfl (step_box (p := .agg (A)) rfl rfl rfl ?_)
  refine .q rfl (q_assign (q := .tr (0) ([]) .full) rfl rfl) ?_
  refine .nil ?_
  refine .seq ?_
  refine .drw (n := 56) [.agg (S), .agg (A), .agg (S), vi .i64 (rep), vi .i64 (ofF W (rep)), .tr ((membersF W R ro (ofF W (rep))).length) ((membersF W R ro (ofF W (rep))).map (vi .i64)) .no, .tr ((membersF W R ro (ofF W (rep))).length) ((membersF W R ro (ofF W (rep))).map (vi .i64)) .no] follows rfl (by kernel_rfl) (by kernel_rfl) ?_ ?_
  · skip
    refine .q rfl (q_load (q := .agg (S)) rfl rfl (loads_whole (b := 0) (cs := S) tyAgg33 tySz33 rfl hS.len)) ?_
    refine .q rfl (q_load (q := .agg (A)) rfl rfl (loads_whole (b := 1) (cs := A) tyAgg23 tySz23 rfl hA.len)) ?_
    refine .q rfl (q_load (q := .agg (S)) rfl rfl (loads_whole (b := 0) (cs := S) tyAgg33 tySz33 rfl hS.len)) ?_
    refine .q rfl (q_move (q := vi .i64 (rep)) rfl rfl) ?_
    refine .q rfl (q_call (ps := [.agg (S), vi .i64 (rep)]) (r := vi .i64 (ofF W (rep))) rfl callable13 rfl ⟨hS.pure, trivial, trivial⟩ trivial (of_ref hS (rep))) ?_
    refine .q rfl (q_call (ps := [.agg (S), .agg (A), vi .i64 (ofF W (rep))]) (r := .tr ((membersF W R ro (ofF W (rep))).length) ((membersF W R ro (ofF W (rep))).map (vi .i64)) .no) rfl callable11 rfl ⟨hS.pure, hA.pure, trivial, trivial⟩ ⟨rfl, (Pures_iff.2 (fun p hp => by simp at hp; obtain ⟨x, _, rfl⟩ := hp; trivial))⟩ (members_ref hS hA (ofF W (rep)))) ?_
    refine .q rfl (q_assign (q := .tr ((membersF W R ro (ofF W (rep))).length) ((membersF W R ro (ofF W (rep))).map (vi .i64)) .no) rfl rfl) ?_
    exact .nil
  refine .seq ?_
  refine .reg ?_
  refine .q rfl (q_assign (q := .tr (0) ([]) .full) rfl rfl) ?_
  refine .nil ?_
  refine .seq ?_
  refine .seq ?_
  refine .reg ?_
  refine .q rfl (q_assign (q := vi .i64 (0)) rfl rfl) ?_
  refine .nil ?_
  refine .block ?_
  refine .loopK (S := Nat × Nat × List PV × Tail × List Bool) [2, 7, 8, 9] (fun ⟨i, ln, cs, tl, ts⟩ => ⟨56, [(2, vi .i64 (rep)), (7, .tr ((membersF W R ro (ofF W (rep))).length) ((membersF W R ro (ofF W (rep))).map (vi .i64)) .no), (8, .tr (ln) (cs) tl), (9, vi .i64 ((i : Int)))], [.row (S) 33, .row (A) 23], ts⟩) (fun ⟨i, ln, cs, tl, ts⟩ => i ≤ (membersF W R ro (ofF W rep)).length ∧ AppOK tl ts 1 ∧ ln = ((((membersF W R ro (ofF W rep)).take i).filter fun m => decide (m > rep))).length ∧ cs = ((((membersF W R ro (ofF W rep)).take i).filter fun m => decide (m > rep))).map (vi .i64)) (fun ⟨i, ln, cs, tl, ts⟩ => (membersF W R ro (ofF W rep)).length - i) ⟨0, 0, [], .full, List.replicate k false⟩ ⟨Nat.zero_le _, .inl rfl, rfl, rfl⟩ rfl ?_
  rintro ⟨i, ln, cs, tl, ts⟩ ⟨hi, hap, hl1, hc1⟩
  have hln : ln ≤ 16 := by rw [hl1]; (try simp only [List.length_append]); have := List.length_filter_le (fun m => decide (m > rep)) ((membersF W R ro (ofF W rep)).take i); have h0 := List.length_filter_le (fun m => decide (m > rep)) (membersF W R ro (ofF W rep)); simp only [List.length_take] at this; omega
  refine .seq ?_
  refine .seq ?_
  refine .reg ?_
  refine .q rfl (q_move (q := vi .i64 ((i : Int))) rfl rfl) ?_
  refine .q rfl (q_move (q := .tr ((membersF W R ro (ofF W (rep))).length) ((membersF W R ro (ofF W (rep))).map (vi .i64)) .no) rfl rfl) ?_
  refine .q rfl (q_len_tr rfl tyUn35 rfl) ?_
  refine .q rfl (q_bin (v := .bool (decide ((i : Int) < (((membersF W R ro (ofF W (rep))).length : Nat) : Int)))) rfl rfl rfl rfl) ?_
  refine .nil ?_
  by_cases h1 : (i : Int) < (((membersF W R ro (ofF W (rep))).length : Nat) : Int)
  · skip
    have h1b : decide ((i : Int) < (((membersF W R ro (ofF W (rep))).length : Nat) : Int)) = true := decide_eq_true h1
    refine .cond_t (b := decide ((i : Int) < (((membersF W R ro (ofF W (rep))).length : Nat) : Int))) rfl h1b ?_
    refine .skip ?_
    refine .seq ?_
    refine .block ?_
    refine .seq ?_
    refine .reg ?_
    refine .q rfl (q_move (q := .tr ((membersF W R ro (ofF W (rep))).length) ((membersF W R ro (ofF W (rep))).map (vi .i64)) .no) rfl rfl) ?_
    refine .q rfl (q_move (q := vi .i64 ((i : Int))) rfl rfl) ?_
    refine .q rfl (q_index_tr (i := (i : Int)) rfl tyUn35 tySz3 rfl rfl (by omega) (by omega)) ?_
    refine .q rfl (q_load (q := vi .i64 ((membersF W R ro (ofF W (rep))).getD i 0)) rfl rfl (loads_fzcell tyAgg3 (cell_mapN (by omega)))) ?_
    have hm2 := atIn hl (i := i) (by omega)
    refine .q rfl (q_move (q := vi .i64 (rep)) rfl rfl) ?_
    refine .q rfl (q_bin (v := .bool (decide ((membersF W R ro (ofF W (rep))).getD i 0 > rep))) rfl rfl rfl rfl) ?_
    refine .nil ?_
    by_cases h3 : (membersF W R ro (ofF W (rep))).getD i 0 > rep
    · skip
      have h3b : decide ((membersF W R ro (ofF W (rep))).getD i 0 > rep) = true := decide_eq_true h3
      refine .cond_t (b := decide ((membersF W R ro (ofF W (rep))).getD i 0 > rep)) rfl h3b ?_
      refine .reg ?_
      refine .q rfl (q_move (q := .tr (ln) (cs) tl) rfl rfl) ?_
      refine .q rfl (q_move (q := .tr ((membersF W R ro (ofF W (rep))).length) ((membersF W R ro (ofF W (rep))).map (vi .i64)) .no) rfl rfl) ?_
      refine .q rfl (q_move (q := vi .i64 ((i : Int))) rfl rfl) ?_
      refine .q rfl (q_index_tr (i := (i : Int)) rfl tyUn35 tySz3 rfl rfl (by omega) (by omega)) ?_
      refine .q rfl (q_load (q := vi .i64 ((membersF W R ro (ofF W (rep))).getD i 0)) rfl rfl (loads_fzcell tyAgg3 (cell_mapN (by omega)))) ?_
      have hm4 := atIn hl (i := i) (by omega)
      refine .q rfl (q_lit (ps := [vi .i64 ((membersF W R ro (ofF W (rep))).getD i 0)]) rfl tyUn35 tySz3 (by decide) (by decide) zero3 rfl zeroLeaf3 (by decide) rfl rfl (fun p hp => by simp at hp; subst hp; exact ⟨rfl, rfl⟩)) ?_
      refine .e rfl (step_append (len := ln) (m := 1) (sz := 1) (cs := cs) (news := [vi .i64 ((membersF W R ro (ofF W (rep))).getD i 0)]) rfl tyUn35 elem3 srcTy35 rfl (by rw [hc1, hl1]; simp) (hap) (src_tr rfl rfl (by simp [Leafs, leaf])) (by omega) ?_)
      intro tl5 ts6 hap7 hke8
      refine .q rfl (q_assign (q := .tr (ln + 1) (cs ++ [vi .i64 ((membersF W R ro (ofF W (rep))).getD i 0)]) tl5) rfl rfl) ?_
      refine .nil ?_
      refine .reg ?_
      refine .q rfl (q_move (q := vi .i64 ((i : Int))) rfl rfl) ?_
      refine .q rfl (q_bin (v := .int .i64 (((i : Int)) + 1)) rfl rfl rfl (add64 (by omega))) ?_
      refine .q rfl (q_assign (q := vi .i64 ((((i : Int)) + 1))) rfl rfl) ?_
      refine .nil ?_
      exact ⟨⟨i + 1, ln + 1, cs ++ [vi .i64 ((membersF W R ro (ofF W (rep))).getD i 0)], tl5, ts6⟩, ⟨by omega, hap7, by rw [filter_take (by omega), if_pos h3b]; simp [hl1, Nat.add_assoc], by rw [filter_take (by omega), if_pos h3b]; simp [hc1]⟩, rfl, (by show (membersF W R ro (ofF W rep)).length - (i + 1) < (membersF W R ro (ofF W rep)).length - i; omega)⟩
    · skip
      have h3b : decide ((membersF W R ro (ofF W (rep))).getD i 0 > rep) = false := decide_eq_false h3
      refine .cond_f (b := decide ((membersF W R ro (ofF W (rep))).getD i 0 > rep)) rfl h3b ?_
      refine .skip ?_
      refine .reg ?_
      refine .q rfl (q_move (q := vi .i64 ((i : Int))) rfl rfl) ?_
      refine .q rfl (q_bin (v := .int .i64 (((i : Int)) + 1)) rfl rfl rfl (add64 (by omega))) ?_
      refine .q rfl (q_assign (q := vi .i64 ((((i : Int)) + 1))) rfl rfl) ?_
      refine .nil ?_
      exact ⟨⟨i + 1, ln, cs, tl, ts⟩, ⟨by omega, hap, by rw [filter_take (by omega), if_neg (by rw [h3b]; simp)]; simp [hl1, Nat.add_assoc], by rw [filter_take (by omega), if_neg (by rw [h3b]; simp)]; simp [hc1]⟩, rfl, (by show (membersF W R ro (ofF W rep)).length - (i + 1) < (membersF W R ro (ofF W rep)).length - i; omega)⟩
  · skip
    have h1b : decide ((i : Int) < (((membersF W R ro (ofF W (rep))).length : Nat) : Int)) = false := decide_eq_false h1
    refine .cond_f (b := decide ((i : Int) < (((membersF W R ro (ofF W (rep))).length : Nat) : Int))) rfl h1b ?_
    refine .exit ?_
    refine .seq ?_
    refine .seq ?_
    refine .reg ?_
    refine .q rfl (q_assign (q := vi .i64 (0)) rfl rfl) ?_
    refine .nil ?_
    refine .block ?_
    refine .loopK (S := Nat × Nat × List PV × Tail × List Bool) [2, 7, 8, 10] (fun ⟨j, ln, cs, tl, ts⟩ => ⟨56, [(2, vi .i64 (rep)), (7, .tr ((membersF W R ro (ofF W (rep))).length) ((membersF W R ro (ofF W (rep))).map (vi .i64)) .no), (8, .tr (ln) (cs) tl), (10, vi .i64 ((j : Int)))], [.row (S) 33, .row (A) 23], ts⟩) (fun ⟨j, ln, cs, tl, ts⟩ => j ≤ (membersF W R ro (ofF W rep)).length ∧ AppOK tl ts 1 ∧ ln = ((((membersF W R ro (ofF W rep)).filter fun m => decide (m > rep)) ++ ((membersF W R ro (ofF W rep)).take j).filter fun m => decide (m < rep))).length ∧ cs = ((((membersF W R ro (ofF W rep)).filter fun m => decide (m > rep)) ++ ((membersF W R ro (ofF W rep)).take j).filter fun m => decide (m < rep))).map (vi .i64)) (fun ⟨j, ln, cs, tl, ts⟩ => (membersF W R ro (ofF W rep)).length - j) ⟨0, ln, cs, tl, ts⟩ ⟨Nat.zero_le _, hap, by rw [hl1, show i = (membersF W R ro (ofF W rep)).length from by omega, List.take_length]; simp, by rw [hc1, show i = (membersF W R ro (ofF W rep)).length from by omega, List.take_length]; simp⟩ rfl ?_
    rintro ⟨j, ln, cs, tl, ts⟩ ⟨hi, hap, hl1, hc1⟩
    have hln : ln ≤ 16 := by rw [hl1]; (try simp only [List.length_append]); have := List.length_filter_le (fun m => decide (m < rep)) ((membersF W R ro (ofF W rep)).take j); have h0 := List.length_filter_le (fun m => decide (m > rep)) (membersF W R ro (ofF W rep)); simp only [List.length_take] at this; omega
    refine .seq ?_
    refine .seq ?_
    refine .reg ?_
    refine .q rfl (q_move (q := vi .i64 ((j : Int))) rfl rfl) ?_
    refine .q rfl (q_move (q := .tr ((membersF W R ro (ofF W (rep))).length) ((membersF W R ro (ofF W (rep))).map (vi .i64)) .no) rfl rfl) ?_
    refine .q rfl (q_len_tr rfl tyUn35 rfl) ?_
    refine .q rfl (q_bin (v := .bool (decide ((j : Int) < (((membersF W R ro (ofF W (rep))).length : Nat) : Int)))) rfl rfl rfl rfl) ?_
    refine .nil ?_
    by_cases h9 : (j : Int) < (((membersF W R ro (ofF W (rep))).length : Nat) : Int)
    · skip
      have h9b : decide ((j : Int) < (((membersF W R ro (ofF W (rep))).length : Nat) : Int)) = true := decide_eq_true h9
      refine .cond_t (b := decide ((j : Int) < (((membersF W R ro (ofF W (rep))).length : Nat) : Int))) rfl h9b ?_
      refine .skip ?_
      refine .seq ?_
      refine .block ?_
      refine .seq ?_
      refine .reg ?_
      refine .q rfl (q_move (q := .tr ((membersF W R ro (ofF W (rep))).length) ((membersF W R ro (ofF W (rep))).map (vi .i64)) .no) rfl rfl) ?_
      refine .q rfl (q_move (q := vi .i64 ((j : Int))) rfl rfl) ?_
      refine .q rfl (q_index_tr (i := (j : Int)) rfl tyUn35 tySz3 rfl rfl (by omega) (by omega)) ?_
      refine .q rfl (q_load (q := vi .i64 ((membersF W R ro (ofF W (rep))).getD j 0)) rfl rfl (loads_fzcell tyAgg3 (cell_mapN (by omega)))) ?_
      have hm10 := atIn hl (i := j) (by omega)
      refine .q rfl (q_move (q := vi .i64 (rep)) rfl rfl) ?_
      refine .q rfl (q_bin (v := .bool (decide ((membersF W R ro (ofF W (rep))).getD j 0 < rep))) rfl rfl rfl rfl) ?_
      refine .nil ?_
      by_cases h11 : (membersF W R ro (ofF W (rep))).getD j 0 < rep
      · skip
        have h11b : decide ((membersF W R ro (ofF W (rep))).getD j 0 < rep) = true := decide_eq_true h11
        refine .cond_t (b := decide ((membersF W R ro (ofF W (rep))).getD j 0 < rep)) rfl h11b ?_
        refine .reg ?_
        refine .q rfl (q_move (q := .tr (ln) (cs) tl) rfl rfl) ?_
        refine .q rfl (q_move (q := .tr ((membersF W R ro (ofF W (rep))).length) ((membersF W R ro (ofF W (rep))).map (vi .i64)) .no) rfl rfl) ?_
        refine .q rfl (q_move (q := vi .i64 ((j : Int))) rfl rfl) ?_
        refine .q rfl (q_index_tr (i := (j : Int)) rfl tyUn35 tySz3 rfl rfl (by omega) (by omega)) ?_
        refine .q rfl (q_load (q := vi .i64 ((membersF W R ro (ofF W (rep))).getD j 0)) rfl rfl (loads_fzcell tyAgg3 (cell_mapN (by omega)))) ?_
        have hm12 := atIn hl (i := j) (by omega)
        refine .q rfl (q_lit (ps := [vi .i64 ((membersF W R ro (ofF W (rep))).getD j 0)]) rfl tyUn35 tySz3 (by decide) (by decide) zero3 rfl zeroLeaf3 (by decide) rfl rfl (fun p hp => by simp at hp; subst hp; exact ⟨rfl, rfl⟩)) ?_
        refine .e rfl (step_append (len := ln) (m := 1) (sz := 1) (cs := cs) (news := [vi .i64 ((membersF W R ro (ofF W (rep))).getD j 0)]) rfl tyUn35 elem3 srcTy35 rfl (by rw [hc1, hl1]; simp) (hap) (src_tr rfl rfl (by simp [Leafs, leaf])) (by omega) ?_)
        intro tl13 ts14 hap15 hke16
        refine .q rfl (q_assign (q := .tr (ln + 1) (cs ++ [vi .i64 ((membersF W R ro (ofF W (rep))).getD j 0)]) tl13) rfl rfl) ?_
        refine .nil ?_
        refine .reg ?_
        refine .q rfl (q_move (q := vi .i64 ((j : Int))) rfl rfl) ?_
        refine .q rfl (q_bin (v := .int .i64 (((j : Int)) + 1)) rfl rfl rfl (add64 (by omega))) ?_
        refine .q rfl (q_assign (q := vi .i64 ((((j : Int)) + 1))) rfl rfl) ?_
        refine .nil ?_
        exact ⟨⟨j + 1, ln + 1, cs ++ [vi .i64 ((membersF W R ro (ofF W (rep))).getD j 0)], tl13, ts14⟩, ⟨by omega, hap15, by rw [filter_take (by omega), if_pos h11b]; simp [hl1, Nat.add_assoc], by rw [filter_take (by omega), if_pos h11b]; simp [hc1]⟩, rfl, (by show (membersF W R ro (ofF W rep)).length - (j + 1) < (membersF W R ro (ofF W rep)).length - j; omega)⟩
      · skip
        have h11b : decide ((membersF W R ro (ofF W (rep))).getD j 0 < rep) = false := decide_eq_false h11
        refine .cond_f (b := decide ((membersF W R ro (ofF W (rep))).getD j 0 < rep)) rfl h11b ?_
        refine .skip ?_
        refine .reg ?_
        refine .q rfl (q_move (q := vi .i64 ((j : Int))) rfl rfl) ?_
        refine .q rfl (q_bin (v := .int .i64 (((j : Int)) + 1)) rfl rfl rfl (add64 (by omega))) ?_
        refine .q rfl (q_assign (q := vi .i64 ((((j : Int)) + 1))) rfl rfl) ?_
        refine .nil ?_
        exact ⟨⟨j + 1, ln, cs, tl, ts⟩, ⟨by omega, hap, by rw [filter_take (by omega), if_neg (by rw [h11b]; simp)]; simp [hl1, Nat.add_assoc], by rw [filter_take (by omega), if_neg (by rw [h11b]; simp)]; simp [hc1]⟩, rfl, (by show (membersF W R ro (ofF W rep)).length - (j + 1) < (membersF W R ro (ofF W rep)).length - j; omega)⟩
    · skip
      have h9b : decide ((j : Int) < (((membersF W R ro (ofF W (rep))).length : Nat) : Int)) = false := decide_eq_false h9
      refine .cond_f (b := decide ((j : Int) < (((membersF W R ro (ofF W (rep))).length : Nat) : Int))) rfl h9b ?_
      refine .exit ?_
      refine .seq ?_
      refine .reg ?_
      refine .q rfl (q_move (q := .tr (ln) (cs) tl) rfl rfl) ?_
      refine .q rfl (q_assign (q := .tr (ln) (cs) tl) rfl rfl) ?_
      refine .nil ?_
      refine .ret ?_
      exact ⟨_, res_weak rfl rfl, (by rw [hl1, hc1, show j = (membersF W R ro (ofF W rep)).length from by omega, List.take_length]; rfl)⟩

theorem next_ref {S : List PV} {W : Nat → Int} {R : Nat → Bool} (hS : IsSt S W R) {A : List PV} {ro : Nat → Bool} (hA : IsB A ro) {B : List PV} {up : Nat → Bool} (hB : IsB B up) (rep : Int) (k : Nat) : ACalls Try.prog 17 [.agg S, .agg A, .agg B, vi .i64 rep] [] k (fun p _ _ => p = vi .i64 (nextF W R ro up rep)) := by
  refine ACalls.of_body (n := 15) Try.func17 rfl rfl ?_
  refine .seq ?_
  refine .reg ?_
  refine .e rfl (step_box (p := .agg (S)) rfl rfl rfl ?_)
  refine .e rfl (step_box (p := .agg (A)) rfl rfl rfl ?_)
  refine .e rfl (step_box (p := .agg (B)) rfl rfl rfl ?_)
  refine .q rfl (q_assign (q := vi .i64 (0)) rfl rfl) ?_
  refine .nil ?_
  refine .seq ?_
  refine .drw (n := 15) [.agg (S), .agg (A), vi .i64 (rep), .tr ((ringF W R ro (rep)).length) ((ringF W R ro (rep)).map (vi .i64)) .no, .agg (B), vi .i64 (firstF (ringF W R ro (rep)) up), vi .i64 (firstF (ringF W R ro (rep)) up)] follows rfl (by kernel_rfl) (by kernel_rfl) ?_ ?_
  · skip
    refine .q rfl (q_load (q := .agg (S)) rfl rfl (loads_whole (b := 0) (cs := S) tyAgg33 tySz33 rfl hS.len)) ?_
    refine .q rfl (q_load (q := .agg (A)) rfl rfl (loads_whole (b := 1) (cs := A) tyAgg23 tySz23 rfl hA.len)) ?_
    refine .q rfl (q_move (q := vi .i64 (rep)) rfl rfl) ?_
    refine .q rfl (q_call (ps := [.agg (S), .agg (A), vi .i64 (rep)]) (r := .tr ((ringF W R ro (rep)).length) ((ringF W R ro (rep)).map (vi .i64)) .no) rfl callable22 rfl ⟨hS.pure, hA.pure, trivial, trivial⟩ ⟨rfl, (Pures_iff.2 (fun p hp => by simp at hp; obtain ⟨x, _, rfl⟩ := hp; trivial))⟩ (ring_ref hS hA (rep))) ?_
    refine .q rfl (q_load (q := .agg (B)) rfl rfl (loads_whole (b := 2) (cs := B) tyAgg23 tySz23 rfl hB.len)) ?_
    refine .q rfl (q_call (ps := [.tr ((ringF W R ro (rep)).length) ((ringF W R ro (rep)).map (vi .i64)) .no, .agg (B)]) (r := vi .i64 (firstF (ringF W R ro (rep)) up)) rfl callable21 rfl ⟨⟨rfl, (Pures_iff.2 (fun p hp => by simp at hp; obtain ⟨x, _, rfl⟩ := hp; trivial))⟩, hB.pure, trivial⟩ trivial (first_ref (l := ringF W R ro (rep)) (fun m h => ring_lo h) (Nat.le_trans (ringF_len W R ro _) (by decide)) hB)) ?_
    refine .q rfl (q_assign (q := vi .i64 (firstF (ringF W R ro (rep)) up)) rfl rfl) ?_
    exact .nil
  refine .ret ?_
  exact ⟨_, res_one rfl (q := vi .i64 (firstF (ringF W R ro (rep)) up)) rfl, rfl⟩

theorem whom_ref {S : List PV} {W : Nat → Int} {R : Nat → Bool} (hS : IsSt S W R) {A : List PV} {ro : Nat → Bool} (hA : IsB A ro) {B : List PV} {up : Nat → Bool} (hB : IsB B up) (hW : ∀ i, i < 8 → 0 ≤ W i ∧ W i ≤ 4) (rep time : Int) (k : Nat) : ACalls Try.prog 19 [.agg S, .agg A, .agg B, vi .i64 rep, vi .u64 time] [] k (fun p _ _ => p = vi .i64 (whomF W R ro up rep time)) := by
  have hob := of_bd hW rep
  have hl : ∀ m, m ∈ membersF W R ro (ofF W rep) → 1 ≤ m ∧ m ≤ 8 := fun m h => members_lo h
  have hlen := ring_len W R ro (ofF W rep)
  refine ACalls.of_body (n := 101) Try.func19 rfl rfl ?_
  refine .seq ?_
  refine .reg ?_
  refine .e rfl (step_box (p := .agg (S)) rfl rfl rfl ?_)
  refine .e rfl (step_box (p := .agg (A)) rfl rfl rfl ?_)
  refine .e rfl (step_box (p := .agg (B)) rfl rfl rfl ?_)
  refine .q rfl (q_assign (q := vi .i64 (0)) rfl rfl) ?_
  refine .nil ?_
  refine .seq ?_
  refine .seq ?_
  refine .reg ?_
  refine .q rfl (q_move (q := vi .i64 (rep)) rfl rfl) ?_
  refine .q rfl (q_bin (v := .bool (decide (rep < 1))) rfl rfl rfl rfl) ?_
  refine .q rfl (q_move (q := vb (decide (rep < 1))) rfl rfl) ?_
  by_cases h1 : rep < 1
  · skip
    have h1b : decide (rep < 1) = true := decide_eq_true h1
    refine .no (guard_n rfl h1b) ?_
    refine .no (guard_n rfl h1b) ?_
    refine .q rfl (q_pick_t (b := decide (rep < 1)) (q := vb (true)) rfl rfl h1b rfl) ?_
    refine .q rfl (q_move (q := vb (true)) rfl rfl) ?_
    refine .no rfl ?_
    refine .no rfl ?_
    refine .no rfl ?_
    refine .no rfl ?_
    refine .no rfl ?_
    refine .q rfl (q_pick_t (b := true) (q := vb (true)) rfl rfl rfl rfl) ?_
    refine .q rfl (q_move (q := vb (true)) rfl rfl) ?_
    refine .no rfl ?_
    refine .no rfl ?_
    refine .no rfl ?_
    refine .no rfl ?_
    refine .no rfl ?_
    refine .q rfl (q_pick_t (b := true) (q := vb (true)) rfl rfl rfl rfl) ?_
    refine .nil ?_
    refine .cond (b := true) rfl ?_
    refine .seq ?_
    refine .reg ?_
    refine .q rfl (q_assign (q := vi .i64 (0)) rfl rfl) ?_
    refine .nil ?_
    refine .ret ?_
    exact ⟨_, res_one rfl (q := vi .i64 (0)) rfl, (by show vi .i64 _ = vi .i64 _; congr 1; unfold whomF; rw [if_pos (here_no1 h1)])⟩
  · skip
    have h1b : decide (rep < 1) = false := decide_eq_false h1
    refine .q (guard_y rfl h1b) (q_move (q := vi .i64 (rep)) rfl rfl) ?_
    refine .q (guard_y rfl h1b) (q_bin (v := .bool (decide (rep > 8))) rfl rfl rfl rfl) ?_
    refine .q rfl (q_pick_f (b := decide (rep < 1)) (q := vb (decide (rep > 8))) rfl rfl h1b rfl) ?_
    refine .q rfl (q_move (q := vb (decide (rep > 8))) rfl rfl) ?_
    by_cases h2 : rep > 8
    · skip
      have h2b : decide (rep > 8) = true := decide_eq_true h2
      refine .no (guard_n rfl h2b) ?_
      refine .no (guard_n rfl h2b) ?_
      refine .no (guard_n rfl h2b) ?_
      refine .no (guard_n rfl h2b) ?_
      refine .no (guard_n rfl h2b) ?_
      refine .q rfl (q_pick_t (b := decide (rep > 8)) (q := vb (true)) rfl rfl h2b rfl) ?_
      refine .q rfl (q_move (q := vb (true)) rfl rfl) ?_
      refine .no rfl ?_
      refine .no rfl ?_
      refine .no rfl ?_
      refine .no rfl ?_
      refine .no rfl ?_
      refine .q rfl (q_pick_t (b := true) (q := vb (true)) rfl rfl rfl rfl) ?_
      refine .nil ?_
      refine .cond (b := true) rfl ?_
      refine .seq ?_
      refine .reg ?_
      refine .q rfl (q_assign (q := vi .i64 (0)) rfl rfl) ?_
      refine .nil ?_
      refine .ret ?_
      exact ⟨_, res_one rfl (q := vi .i64 (0)) rfl, (by show vi .i64 _ = vi .i64 _; congr 1; unfold whomF; rw [if_pos (here_no2 h2)])⟩
    · skip
      have h2b : decide (rep > 8) = false := decide_eq_false h2
      refine .q (guard_y rfl h2b) (q_move (q := vi .i64 (rep)) rfl rfl) ?_
      refine .q (guard_y rfl h2b) (q_bin (v := .int .i64 (rep - 1)) rfl rfl rfl (sub64 (by omega))) ?_
      refine .q (guard_y rfl h2b) (q_iptr (off' := 0 + ((rep - 1)).toNat) rfl tyUn23 tySz4 rfl rfl (by omega) (by omega) (by omega)) ?_
      refine .q (guard_y rfl h2b) (q_load (q := vb (ro ((rep - 1)).toNat)) rfl rfl (loads_cell (b := 1) (off := 0 + ((rep - 1)).toNat) (cs := A) tyAgg4 rfl (by rw [Nat.zero_add]; exact hA.get ((rep - 1)).toNat (by omega)))) ?_
      refine .q (guard_y rfl h2b) (q_not (a := ro ((rep - 1)).toNat) rfl rfl) ?_
      refine .q rfl (q_pick_f (b := decide (rep > 8)) (q := vb (!(ro ((rep - 1)).toNat))) rfl rfl h2b rfl) ?_
      refine .q rfl (q_move (q := vb (!(ro ((rep - 1)).toNat))) rfl rfl) ?_
      rcases Bool.eq_false_or_eq_true (ro ((rep - 1)).toNat) with h3 | h3
      · skip
        refine .q (guard_y rfl (not_t h3)) (q_move (q := vi .i64 (rep)) rfl rfl) ?_
        refine .q (guard_y rfl (not_t h3)) (q_bin (v := .int .i64 (rep - 1)) rfl rfl rfl (sub64 (by omega))) ?_
        refine .q (guard_y rfl (not_t h3)) (q_field (fo := 18) rfl fo33_4 rfl) ?_
        refine .q (guard_y rfl (not_t h3)) (q_iptr (off' := 18 + ((rep - 1)).toNat) rfl tyUn23 tySz4 rfl rfl (by omega) (by omega) (by omega)) ?_
        refine .q (guard_y rfl (not_t h3)) (q_load (q := vb (R ((rep - 1)).toNat)) rfl rfl (loads_cell (b := 0) (off := 18 + ((rep - 1)).toNat) (cs := S) tyAgg4 rfl (hS.r ((rep - 1)).toNat (by omega)))) ?_
        refine .q rfl (q_pick_f (b := !(ro ((rep - 1)).toNat)) (q := vb (R ((rep - 1)).toNat)) rfl rfl (not_t h3) rfl) ?_
        refine .nil ?_
        rcases Bool.eq_false_or_eq_true (R ((rep - 1)).toNat) with h4 | h4
        · skip
          refine .cond_t (b := R ((rep - 1)).toNat) rfl h4 ?_
          refine .seq ?_
          refine .reg ?_
          refine .q rfl (q_assign (q := vi .i64 (0)) rfl rfl) ?_
          refine .nil ?_
          refine .ret ?_
          exact ⟨_, res_one rfl (q := vi .i64 (0)) rfl, (by show vi .i64 _ = vi .i64 _; congr 1; unfold whomF; rw [if_pos (here_no4 h4)])⟩
        · skip
          refine .cond_f (b := R ((rep - 1)).toNat) rfl h4 ?_
          refine .skip ?_
          refine .seq ?_
          refine .drw (n := 101) [.agg (S), vi .i64 (rep), vi .i64 (ofF W (rep)), .agg (S), .agg (A), .agg (B), vi .i64 (rep), vi .i64 (nextF W R ro up (rep)), vi .i64 (ofF W (rep)), vi .i64 (nextF W R ro up (rep))] follows rfl (by kernel_rfl) (by kernel_rfl) ?_ ?_
          · skip
            refine .q rfl (q_load (q := .agg (S)) rfl rfl (loads_whole (b := 0) (cs := S) tyAgg33 tySz33 rfl hS.len)) ?_
            refine .q rfl (q_move (q := vi .i64 (rep)) rfl rfl) ?_
            refine .q rfl (q_call (ps := [.agg (S), vi .i64 (rep)]) (r := vi .i64 (ofF W (rep))) rfl callable13 rfl ⟨hS.pure, trivial, trivial⟩ trivial (of_ref hS (rep))) ?_
            refine .q rfl (q_load (q := .agg (S)) rfl rfl (loads_whole (b := 0) (cs := S) tyAgg33 tySz33 rfl hS.len)) ?_
            refine .q rfl (q_load (q := .agg (A)) rfl rfl (loads_whole (b := 1) (cs := A) tyAgg23 tySz23 rfl hA.len)) ?_
            refine .q rfl (q_load (q := .agg (B)) rfl rfl (loads_whole (b := 2) (cs := B) tyAgg23 tySz23 rfl hB.len)) ?_
            refine .q rfl (q_move (q := vi .i64 (rep)) rfl rfl) ?_
            refine .q rfl (q_call (ps := [.agg (S), .agg (A), .agg (B), vi .i64 (rep)]) (r := vi .i64 (nextF W R ro up (rep))) rfl callable17 rfl ⟨hS.pure, hA.pure, hB.pure, trivial, trivial⟩ trivial (next_ref hS hA hB (rep))) ?_
            refine .q rfl (q_assign (q := vi .i64 (ofF W (rep))) rfl rfl) ?_
            refine .q rfl (q_assign (q := vi .i64 (nextF W R ro up (rep))) rfl rfl) ?_
            exact .nil
          refine .seq ?_
          refine .reg ?_
          refine .q rfl (q_load (q := .agg (S)) rfl rfl (loads_whole (b := 0) (cs := S) tyAgg33 tySz33 rfl hS.len)) ?_
          refine .q rfl (q_load (q := .agg (A)) rfl rfl (loads_whole (b := 1) (cs := A) tyAgg23 tySz23 rfl hA.len)) ?_
          refine .q rfl (q_move (q := vi .i64 (ofF W (rep))) rfl rfl) ?_
          refine .q rfl (q_call (ps := [.agg (S), .agg (A), vi .i64 (ofF W (rep))]) (r := .tr ((membersF W R ro (ofF W (rep))).length) ((membersF W R ro (ofF W (rep))).map (vi .i64)) .no) rfl callable11 rfl ⟨hS.pure, hA.pure, trivial, trivial⟩ ⟨rfl, (Pures_iff.2 (fun p hp => by simp at hp; obtain ⟨x, _, rfl⟩ := hp; trivial))⟩ (members_ref hS hA (ofF W (rep)))) ?_
          refine .q rfl (q_assign (q := .tr ((membersF W R ro (ofF W (rep))).length) ((membersF W R ro (ofF W (rep))).map (vi .i64)) .no) rfl rfl) ?_
          refine .nil ?_
          refine .seq ?_
          refine .seq ?_
          refine .reg ?_
          refine .q rfl (q_assign (q := vi .i64 (0)) rfl rfl) ?_
          refine .nil ?_
          refine .block ?_
          refine .loopK (S := Nat) [3, 4, 5, 6, 7, 11, 12, 13, 14] (fun i => ⟨101, [(3, vi .i64 (rep)), (4, vi .u64 (time)), (5, .ptr 0 (0)), (6, .ptr 1 (0)), (7, .ptr 2 (0)), (11, vi .i64 (ofF W (rep))), (12, vi .i64 (nextF W R ro up (rep))), (13, .tr ((membersF W R ro (ofF W (rep))).length) ((membersF W R ro (ofF W (rep))).map (vi .i64)) .no), (14, vi .i64 ((i : Int)))], [.row (S) 33, .row (A) 23, .row (B) 23], List.replicate k false⟩) (fun i => i ≤ (membersF W R ro (ofF W rep)).length ∧ firstF ((membersF W R ro (ofF W rep)).drop i) (setUp up rep) = masterF W R ro (setUp up rep) (ofF W rep)) (fun i => (membersF W R ro (ofF W rep)).length - i) 0 ⟨Nat.zero_le _, rfl⟩ rfl ?_
          rintro i ⟨hi, hinv⟩
          refine .seq ?_
          refine .seq ?_
          refine .reg ?_
          refine .q rfl (q_move (q := vi .i64 ((i : Int))) rfl rfl) ?_
          refine .q rfl (q_move (q := .tr ((membersF W R ro (ofF W (rep))).length) ((membersF W R ro (ofF W (rep))).map (vi .i64)) .no) rfl rfl) ?_
          refine .q rfl (q_len_tr rfl tyUn35 rfl) ?_
          refine .q rfl (q_bin (v := .bool (decide ((i : Int) < (((membersF W R ro (ofF W (rep))).length : Nat) : Int)))) rfl rfl rfl rfl) ?_
          refine .q rfl (q_move (q := vb (decide ((i : Int) < (((membersF W R ro (ofF W (rep))).length : Nat) : Int)))) rfl rfl) ?_
          by_cases h5 : (i : Int) < (((membersF W R ro (ofF W (rep))).length : Nat) : Int)
          · skip
            have h5b : decide ((i : Int) < (((membersF W R ro (ofF W (rep))).length : Nat) : Int)) = true := decide_eq_true h5
            refine .q (guard_y rfl h5b) (q_move (q := .tr ((membersF W R ro (ofF W (rep))).length) ((membersF W R ro (ofF W (rep))).map (vi .i64)) .no) rfl rfl) ?_
            refine .q (guard_y rfl h5b) (q_move (q := vi .i64 ((i : Int))) rfl rfl) ?_
            refine .q (guard_y rfl h5b) (q_index_tr (i := (i : Int)) rfl tyUn35 tySz3 rfl rfl (by omega) (by omega)) ?_
            refine .q (guard_y rfl h5b) (q_load (q := vi .i64 ((membersF W R ro (ofF W (rep))).getD i 0)) rfl rfl (loads_fzcell tyAgg3 (cell_mapN (by omega)))) ?_
            have hm6 := atIn hl (i := i) (by omega)
            refine .q (guard_y rfl h5b) (q_move (q := vi .i64 (rep)) rfl rfl) ?_
            refine .q (guard_y rfl h5b) (q_bin (v := .bool (((membersF W R ro (ofF W (rep))).getD i 0 != rep))) rfl rfl rfl rfl) ?_
            refine .q rfl (q_pick_t (b := decide ((i : Int) < (((membersF W R ro (ofF W (rep))).length : Nat) : Int))) (q := vb (((membersF W R ro (ofF W (rep))).getD i 0 != rep))) rfl rfl h5b rfl) ?_
            refine .nil ?_
            by_cases h7 : (membersF W R ro (ofF W (rep))).getD i 0 = rep
            · skip
              have h7b : ((membersF W R ro (ofF W (rep))).getD i 0 != rep) = false := bne_eq_false_iff_eq.2 h7
              refine .cond_f (b := ((membersF W R ro (ofF W (rep))).getD i 0 != rep)) rfl h7b ?_
              refine .exit ?_
              refine .seq ?_
              refine .reg ?_
              refine .q rfl (q_assign (q := vi .i64 (0)) rfl rfl) ?_
              refine .nil ?_
              refine .seq ?_
              refine .seq ?_
              refine .reg ?_
              refine .q rfl (q_move (q := vi .i64 (ofF W (rep))) rfl rfl) ?_
              refine .q rfl (q_bin (v := .int .i64 (ofF W (rep) + 4)) rfl rfl rfl (add64 (by omega))) ?_
              refine .q rfl (q_assign (q := vi .i64 (ofF W (rep) + 4)) rfl rfl) ?_
              refine .nil ?_
              refine .block ?_
              have hmas := mas_at (by omega) hinv h7
              refine .loopK (S := Nat × Int × Int) [3, 4, 5, 6, 7, 11, 12, 15, 16] (fun ⟨j, wv, ot⟩ => ⟨101, [(3, vi .i64 (rep)), (4, vi .u64 (time)), (5, .ptr 0 (0)), (6, .ptr 1 (0)), (7, .ptr 2 (0)), (11, vi .i64 (ofF W (rep))), (12, vi .i64 (nextF W R ro up (rep))), (15, vi .i64 (ot)), (16, vi .i64 (wv))], [.row (S) 33, .row (A) 23, .row (B) 23], List.replicate k false⟩) (fun ⟨j, wv, ot⟩ => j ≤ 4 ∧ wv = ofF W (rep) + (j : Int) ∧ ot = beyL W R ro up (ofF W rep) (4 - j) ((j : Int) + 1)) (fun ⟨j, wv, ot⟩ => j) ⟨4, ofF W (rep) + 4, 0⟩ ⟨Nat.le_refl _, rfl, rfl⟩ rfl ?_
              rintro ⟨j, wv, ot⟩ ⟨hj, hwv, hot⟩
              replace hj : j ≤ 4 := hj
              replace hwv : wv = ofF W (rep) + (j : Int) := hwv
              replace hot : ot = beyL W R ro up (ofF W rep) (4 - j) ((j : Int) + 1) := hot
              refine .seq ?_
              refine .seq ?_
              refine .reg ?_
              refine .q rfl (q_move (q := vi .i64 (wv)) rfl rfl) ?_
              refine .q rfl (q_move (q := vi .i64 (ofF W (rep))) rfl rfl) ?_
              refine .q rfl (q_bin (v := .bool (decide (wv > ofF W (rep)))) rfl rfl rfl rfl) ?_
              refine .nil ?_
              by_cases h8 : wv > ofF W (rep)
              · skip
                have h8b : decide (wv > ofF W (rep)) = true := decide_eq_true h8
                refine .cond_t (b := decide (wv > ofF W (rep))) rfl h8b ?_
                refine .skip ?_
                refine .seq ?_
                refine .block ?_
                refine .seq ?_
                refine .reg ?_
                refine .q rfl (q_load (q := .agg (S)) rfl rfl (loads_whole (b := 0) (cs := S) tyAgg33 tySz33 rfl hS.len)) ?_
                refine .q rfl (q_load (q := .agg (A)) rfl rfl (loads_whole (b := 1) (cs := A) tyAgg23 tySz23 rfl hA.len)) ?_
                refine .q rfl (q_load (q := .agg (B)) rfl rfl (loads_whole (b := 2) (cs := B) tyAgg23 tySz23 rfl hB.len)) ?_
                refine .q rfl (q_move (q := vi .i64 (wv)) rfl rfl) ?_
                refine .q rfl (q_rem (a := wv) (b := 5) rfl rfl rfl (by decide)) ?_
                refine .q rfl (q_call (ps := [.agg (S), .agg (A), .agg (B), vi .i64 ((wv).tmod 5)]) (r := vi .i64 (masterF W R ro up ((wv).tmod 5))) rfl callable15 rfl ⟨hS.pure, hA.pure, hB.pure, trivial, trivial⟩ trivial (master_ref hS hA hB ((wv).tmod 5))) ?_
                refine .q rfl (q_assign (q := vi .i64 (masterF W R ro up ((wv).tmod 5))) rfl rfl) ?_
                refine .nil ?_
                refine .seq ?_
                refine .reg ?_
                refine .q rfl (q_move (q := vi .i64 (masterF W R ro up ((wv).tmod 5))) rfl rfl) ?_
                refine .q rfl (q_bin (v := .bool ((masterF W R ro up ((wv).tmod 5) != 0))) rfl rfl rfl rfl) ?_
                refine .nil ?_
                by_cases h9 : masterF W R ro up ((wv).tmod 5) = 0
                · skip
                  have h9b : (masterF W R ro up ((wv).tmod 5) != 0) = false := bne_eq_false_iff_eq.2 h9
                  refine .cond_f (b := (masterF W R ro up ((wv).tmod 5) != 0)) rfl h9b ?_
                  refine .skip ?_
                  refine .reg ?_
                  refine .q rfl (q_move (q := vi .i64 (wv)) rfl rfl) ?_
                  refine .q rfl (q_bin (v := .int .i64 (wv - 1)) rfl rfl rfl (sub64 (by omega))) ?_
                  refine .q rfl (q_assign (q := vi .i64 ((wv - 1))) rfl rfl) ?_
                  refine .nil ?_
                  exact ⟨⟨j - 1, (wv - 1), ot⟩, ⟨by omega, by omega, by rw [bey_step _ _ _ _ _ (by omega) hj, ← hwv, if_neg (fun h => h h9)]; exact hot⟩, rfl, (by show j - 1 < j; omega)⟩
                · skip
                  have h9b : (masterF W R ro up ((wv).tmod 5) != 0) = true := bne_iff_ne.2 h9
                  refine .cond_t (b := (masterF W R ro up ((wv).tmod 5) != 0)) rfl h9b ?_
                  refine .reg ?_
                  refine .q rfl (q_move (q := vi .i64 (masterF W R ro up ((wv).tmod 5))) rfl rfl) ?_
                  refine .q rfl (q_assign (q := vi .i64 (masterF W R ro up ((wv).tmod 5))) rfl rfl) ?_
                  refine .nil ?_
                  refine .reg ?_
                  refine .q rfl (q_move (q := vi .i64 (wv)) rfl rfl) ?_
                  refine .q rfl (q_bin (v := .int .i64 (wv - 1)) rfl rfl rfl (sub64 (by omega))) ?_
                  refine .q rfl (q_assign (q := vi .i64 ((wv - 1))) rfl rfl) ?_
                  refine .nil ?_
                  exact ⟨⟨j - 1, (wv - 1), masterF W R ro up ((wv).tmod 5)⟩, ⟨by omega, by omega, by rw [bey_step _ _ _ _ _ (by omega) hj, ← hwv, if_pos h9]⟩, rfl, (by show j - 1 < j; omega)⟩
              · skip
                have h8b : decide (wv > ofF W (rep)) = false := decide_eq_false h8
                refine .cond_f (b := decide (wv > ofF W (rep))) rfl h8b ?_
                refine .exit ?_
                refine .seq ?_
                refine .seq ?_
                refine .reg ?_
                refine .q rfl (q_move (q := vi .u64 (time)) rfl rfl) ?_
                refine .q rfl (q_rem (a := time) (b := 2) rfl rfl rfl (by decide)) ?_
                refine .q rfl (q_bin (v := .bool (((time).tmod 2 == 1))) rfl rfl rfl rfl) ?_
                refine .q rfl (q_move (q := vb (((time).tmod 2 == 1))) rfl rfl) ?_
                by_cases h10 : (time).tmod 2 = 1
                · skip
                  have h10b : ((time).tmod 2 == 1) = true := beq_iff_eq.2 h10
                  refine .q (guard_y rfl h10b) (q_move (q := vi .i64 (ot)) rfl rfl) ?_
                  refine .q (guard_y rfl h10b) (q_bin (v := .bool ((ot != 0))) rfl rfl rfl rfl) ?_
                  refine .q rfl (q_pick_t (b := ((time).tmod 2 == 1)) (q := vb ((ot != 0))) rfl rfl h10b rfl) ?_
                  refine .q rfl (q_move (q := vb ((ot != 0))) rfl rfl) ?_
                  by_cases h11 : ot = 0
                  · skip
                    have h11b : (ot != 0) = false := bne_eq_false_iff_eq.2 h11
                    refine .q (guard_y rfl h11b) (q_move (q := vi .i64 (nextF W R ro up (rep))) rfl rfl) ?_
                    refine .q (guard_y rfl h11b) (q_bin (v := .bool ((nextF W R ro up (rep) == 0))) rfl rfl rfl rfl) ?_
                    refine .q rfl (q_pick_f (b := (ot != 0)) (q := vb ((nextF W R ro up (rep) == 0))) rfl rfl h11b rfl) ?_
                    refine .nil ?_
                    by_cases h12 : nextF W R ro up (rep) = 0
                    · skip
                      have h12b : (nextF W R ro up (rep) == 0) = true := beq_iff_eq.2 h12
                      refine .cond_t (b := (nextF W R ro up (rep) == 0)) rfl h12b ?_
                      refine .seq ?_
                      refine .reg ?_
                      refine .q rfl (q_move (q := vi .i64 (ot)) rfl rfl) ?_
                      refine .q rfl (q_assign (q := vi .i64 (ot)) rfl rfl) ?_
                      refine .nil ?_
                      refine .ret ?_
                      exact ⟨_, res_one rfl (q := vi .i64 (ot)) rfl, (by show vi .i64 _ = vi .i64 _; congr 1; have hbe : ot = beyondF W R ro up (ofF W rep) := (by rw [hot, show j = 0 from by omega]; rfl); unfold whomF; rw [if_neg (by rw [(here_mk h1 h2 h3 h4)]; simp), if_neg (by exact fun h => h hmas), if_pos (.inl h12), hbe])⟩
                    · skip
                      have h12b : (nextF W R ro up (rep) == 0) = false := beq_eq_false_iff_ne.2 h12
                      refine .cond_f (b := (nextF W R ro up (rep) == 0)) rfl h12b ?_
                      refine .skip ?_
                      refine .seq ?_
                      refine .reg ?_
                      refine .q rfl (q_move (q := vi .i64 (nextF W R ro up (rep))) rfl rfl) ?_
                      refine .q rfl (q_assign (q := vi .i64 (nextF W R ro up (rep))) rfl rfl) ?_
                      refine .nil ?_
                      refine .ret ?_
                      exact ⟨_, res_one rfl (q := vi .i64 (nextF W R ro up (rep))) rfl, (by show vi .i64 _ = vi .i64 _; congr 1; have hbe : ot = beyondF W R ro up (ofF W rep) := (by rw [hot, show j = 0 from by omega]; rfl); unfold whomF; rw [if_neg (by rw [(here_mk h1 h2 h3 h4)]; simp), if_neg (by exact fun h => h hmas), if_neg (by rintro (h | h); exact h12 h; exact h.2 (hbe ▸ h11))])⟩
                  · skip
                    have h11b : (ot != 0) = true := bne_iff_ne.2 h11
                    refine .no (guard_n rfl h11b) ?_
                    refine .no (guard_n rfl h11b) ?_
                    refine .q rfl (q_pick_t (b := (ot != 0)) (q := vb (true)) rfl rfl h11b rfl) ?_
                    refine .nil ?_
                    refine .cond (b := true) rfl ?_
                    refine .seq ?_
                    refine .reg ?_
                    refine .q rfl (q_move (q := vi .i64 (ot)) rfl rfl) ?_
                    refine .q rfl (q_assign (q := vi .i64 (ot)) rfl rfl) ?_
                    refine .nil ?_
                    refine .ret ?_
                    exact ⟨_, res_one rfl (q := vi .i64 (ot)) rfl, (by show vi .i64 _ = vi .i64 _; congr 1; have hbe : ot = beyondF W R ro up (ofF W rep) := (by rw [hot, show j = 0 from by omega]; rfl); unfold whomF; rw [if_neg (by rw [(here_mk h1 h2 h3 h4)]; simp), if_neg (by exact fun h => h hmas), if_pos (.inr ⟨h10, hbe ▸ h11⟩), hbe])⟩
                · skip
                  have h10b : ((time).tmod 2 == 1) = false := beq_eq_false_iff_ne.2 h10
                  refine .no (guard_n rfl h10b) ?_
                  refine .no (guard_n rfl h10b) ?_
                  refine .q rfl (q_pick_f (b := ((time).tmod 2 == 1)) (q := vb (false)) rfl rfl h10b rfl) ?_
                  refine .q rfl (q_move (q := vb (false)) rfl rfl) ?_
                  refine .q rfl (q_move (q := vi .i64 (nextF W R ro up (rep))) rfl rfl) ?_
                  refine .q rfl (q_bin (v := .bool ((nextF W R ro up (rep) == 0))) rfl rfl rfl rfl) ?_
                  refine .q rfl (q_pick_f (b := false) (q := vb ((nextF W R ro up (rep) == 0))) rfl rfl rfl rfl) ?_
                  refine .nil ?_
                  by_cases h13 : nextF W R ro up (rep) = 0
                  · skip
                    have h13b : (nextF W R ro up (rep) == 0) = true := beq_iff_eq.2 h13
                    refine .cond_t (b := (nextF W R ro up (rep) == 0)) rfl h13b ?_
                    refine .seq ?_
                    refine .reg ?_
                    refine .q rfl (q_move (q := vi .i64 (ot)) rfl rfl) ?_
                    refine .q rfl (q_assign (q := vi .i64 (ot)) rfl rfl) ?_
                    refine .nil ?_
                    refine .ret ?_
                    exact ⟨_, res_one rfl (q := vi .i64 (ot)) rfl, (by show vi .i64 _ = vi .i64 _; congr 1; have hbe : ot = beyondF W R ro up (ofF W rep) := (by rw [hot, show j = 0 from by omega]; rfl); unfold whomF; rw [if_neg (by rw [(here_mk h1 h2 h3 h4)]; simp), if_neg (by exact fun h => h hmas), if_pos (.inl h13), hbe])⟩
                  · skip
                    have h13b : (nextF W R ro up (rep) == 0) = false := beq_eq_false_iff_ne.2 h13
                    refine .cond_f (b := (nextF W R ro up (rep) == 0)) rfl h13b ?_
                    refine .skip ?_
                    refine .seq ?_
                    refine .reg ?_
                    refine .q rfl (q_move (q := vi .i64 (nextF W R ro up (rep))) rfl rfl) ?_
                    refine .q rfl (q_assign (q := vi .i64 (nextF W R ro up (rep))) rfl rfl) ?_
                    refine .nil ?_
                    refine .ret ?_
                    exact ⟨_, res_one rfl (q := vi .i64 (nextF W R ro up (rep))) rfl, (by show vi .i64 _ = vi .i64 _; congr 1; unfold whomF; rw [if_neg (by rw [(here_mk h1 h2 h3 h4)]; simp), if_neg (by exact fun h => h hmas), if_neg (by rintro (h | h); exact h13 h; exact h10 h.1)])⟩
            · skip
              have h7b : ((membersF W R ro (ofF W (rep))).getD i 0 != rep) = true := bne_iff_ne.2 h7
              refine .cond_t (b := ((membersF W R ro (ofF W (rep))).getD i 0 != rep)) rfl h7b ?_
              refine .skip ?_
              refine .seq ?_
              refine .block ?_
              refine .seq ?_
              refine .reg ?_
              refine .q rfl (q_move (q := .tr ((membersF W R ro (ofF W (rep))).length) ((membersF W R ro (ofF W (rep))).map (vi .i64)) .no) rfl rfl) ?_
              refine .q rfl (q_move (q := vi .i64 ((i : Int))) rfl rfl) ?_
              refine .q rfl (q_index_tr (i := (i : Int)) rfl tyUn35 tySz3 rfl rfl (by omega) (by omega)) ?_
              refine .q rfl (q_load (q := vi .i64 ((membersF W R ro (ofF W (rep))).getD i 0)) rfl rfl (loads_fzcell tyAgg3 (cell_mapN (by omega)))) ?_
              have hm14 := atIn hl (i := i) (by omega)
              refine .q rfl (q_bin (v := .int .i64 (((membersF W R ro (ofF W (rep))).getD i 0) - 1)) rfl rfl rfl (sub64 (by omega))) ?_
              refine .q rfl (q_iptr (off' := 0 + (((membersF W R ro (ofF W (rep))).getD i 0) - 1).toNat) rfl tyUn23 tySz4 rfl rfl (by omega) (by omega) (by omega)) ?_
              refine .q rfl (q_load (q := vb (up (((membersF W R ro (ofF W (rep))).getD i 0) - 1).toNat)) rfl rfl (loads_cell (b := 2) (off := 0 + (((membersF W R ro (ofF W (rep))).getD i 0) - 1).toNat) (cs := B) tyAgg4 rfl (by rw [Nat.zero_add]; exact hB.get (((membersF W R ro (ofF W (rep))).getD i 0) - 1).toNat (by omega)))) ?_
              refine .nil ?_
              rcases Bool.eq_false_or_eq_true (up (((membersF W R ro (ofF W (rep))).getD i 0) - 1).toNat) with h15 | h15
              · skip
                refine .cond_t (b := up (((membersF W R ro (ofF W (rep))).getD i 0) - 1).toNat) rfl h15 ?_
                refine .seq ?_
                refine .reg ?_
                refine .q rfl (q_move (q := vi .i64 (nextF W R ro up (rep))) rfl rfl) ?_
                refine .q rfl (q_assign (q := vi .i64 (nextF W R ro up (rep))) rfl rfl) ?_
                refine .nil ?_
                refine .ret ?_
                exact ⟨_, res_one rfl (q := vi .i64 (nextF W R ro up (rep))) rfl, (by show vi .i64 _ = vi .i64 _; congr 1; unfold whomF; rw [if_neg (by rw [(here_mk h1 h2 h3 h4)]; simp), if_pos (mas_ne (here_mk h1 h2 h3 h4) (by omega) hinv h7 h15)])⟩
              · skip
                refine .cond_f (b := up (((membersF W R ro (ofF W (rep))).getD i 0) - 1).toNat) rfl h15 ?_
                refine .skip ?_
                refine .reg ?_
                refine .q rfl (q_move (q := vi .i64 ((i : Int))) rfl rfl) ?_
                refine .q rfl (q_bin (v := .int .i64 (((i : Int)) + 1)) rfl rfl rfl (add64 (by omega))) ?_
                refine .q rfl (q_assign (q := vi .i64 ((((i : Int)) + 1))) rfl rfl) ?_
                refine .nil ?_
                exact ⟨i + 1, ⟨by omega, by rw [← hinv, firstF_drop (i := i) (by omega), if_neg (by rw [setUp_ne (by omega) (by omega) h7, h15]; simp)]⟩, rfl, (by show (membersF W R ro (ofF W rep)).length - (i + 1) < (membersF W R ro (ofF W rep)).length - i; omega)⟩
          · skip
            have h5b : decide ((i : Int) < (((membersF W R ro (ofF W (rep))).length : Nat) : Int)) = false := decide_eq_false h5
            refine .no (guard_n rfl h5b) ?_
            refine .no (guard_n rfl h5b) ?_
            refine .no (guard_n rfl h5b) ?_
            refine .no (guard_n rfl h5b) ?_
            refine .no (guard_n rfl h5b) ?_
            refine .no (guard_n rfl h5b) ?_
            refine .q rfl (q_pick_f (b := decide ((i : Int) < (((membersF W R ro (ofF W (rep))).length : Nat) : Int))) (q := vb (false)) rfl rfl h5b rfl) ?_
            refine .nil ?_
            refine .cond (b := false) rfl ?_
            refine .exit ?_
            refine .seq ?_
            refine .reg ?_
            refine .q rfl (q_assign (q := vi .i64 (0)) rfl rfl) ?_
            refine .nil ?_
            refine .seq ?_
            refine .seq ?_
            refine .reg ?_
            refine .q rfl (q_move (q := vi .i64 (ofF W (rep))) rfl rfl) ?_
            refine .q rfl (q_bin (v := .int .i64 (ofF W (rep) + 4)) rfl rfl rfl (add64 (by omega))) ?_
            refine .q rfl (q_assign (q := vi .i64 (ofF W (rep) + 4)) rfl rfl) ?_
            refine .nil ?_
            refine .block ?_
            have hmas := mas_end (here_mk h1 h2 h3 h4) (by omega) hinv
            refine .loopK (S := Nat × Int × Int) [3, 4, 5, 6, 7, 11, 12, 15, 16] (fun ⟨j, wv, ot⟩ => ⟨101, [(3, vi .i64 (rep)), (4, vi .u64 (time)), (5, .ptr 0 (0)), (6, .ptr 1 (0)), (7, .ptr 2 (0)), (11, vi .i64 (ofF W (rep))), (12, vi .i64 (nextF W R ro up (rep))), (15, vi .i64 (ot)), (16, vi .i64 (wv))], [.row (S) 33, .row (A) 23, .row (B) 23], List.replicate k false⟩) (fun ⟨j, wv, ot⟩ => j ≤ 4 ∧ wv = ofF W (rep) + (j : Int) ∧ ot = beyL W R ro up (ofF W rep) (4 - j) ((j : Int) + 1)) (fun ⟨j, wv, ot⟩ => j) ⟨4, ofF W (rep) + 4, 0⟩ ⟨Nat.le_refl _, rfl, rfl⟩ rfl ?_
            rintro ⟨j, wv, ot⟩ ⟨hj, hwv, hot⟩
            replace hj : j ≤ 4 := hj
            replace hwv : wv = ofF W (rep) + (j : Int) := hwv
            replace hot : ot = beyL W R ro up (ofF W rep) (4 - j) ((j : Int) + 1) := hot
            refine .seq ?_
            refine .seq ?_
            refine .reg ?_
            refine .q rfl (q_move (q := vi .i64 (wv)) rfl rfl) ?_
            refine .q rfl (q_move (q := vi .i64 (ofF W (rep))) rfl rfl) ?_
            refine .q rfl (q_bin (v := .bool (decide (wv > ofF W (rep)))) rfl rfl rfl rfl) ?_
            refine .nil ?_
            by_cases h16 : wv > ofF W (rep)
            · skip
              have h16b : decide (wv > ofF W (rep)) = true := decide_eq_true h16
              refine .cond_t (b := decide (wv > ofF W (rep))) rfl h16b ?_
              refine .skip ?_
              refine .seq ?_
              refine .block ?_
              refine .seq ?_
              refine .reg ?_
              refine .q rfl (q_load (q := .agg (S)) rfl rfl (loads_whole (b := 0) (cs := S) tyAgg33 tySz33 rfl hS.len)) ?_
              refine .q rfl (q_load (q := .agg (A)) rfl rfl (loads_whole (b := 1) (cs := A) tyAgg23 tySz23 rfl hA.len)) ?_
              refine .q rfl (q_load (q := .agg (B)) rfl rfl (loads_whole (b := 2) (cs := B) tyAgg23 tySz23 rfl hB.len)) ?_
              refine .q rfl (q_move (q := vi .i64 (wv)) rfl rfl) ?_
              refine .q rfl (q_rem (a := wv) (b := 5) rfl rfl rfl (by decide)) ?_
              refine .q rfl (q_call (ps := [.agg (S), .agg (A), .agg (B), vi .i64 ((wv).tmod 5)]) (r := vi .i64 (masterF W R ro up ((wv).tmod 5))) rfl callable15 rfl ⟨hS.pure, hA.pure, hB.pure, trivial, trivial⟩ trivial (master_ref hS hA hB ((wv).tmod 5))) ?_
              refine .q rfl (q_assign (q := vi .i64 (masterF W R ro up ((wv).tmod 5))) rfl rfl) ?_
              refine .nil ?_
              refine .seq ?_
              refine .reg ?_
              refine .q rfl (q_move (q := vi .i64 (masterF W R ro up ((wv).tmod 5))) rfl rfl) ?_
              refine .q rfl (q_bin (v := .bool ((masterF W R ro up ((wv).tmod 5) != 0))) rfl rfl rfl rfl) ?_
              refine .nil ?_
              by_cases h17 : masterF W R ro up ((wv).tmod 5) = 0
              · skip
                have h17b : (masterF W R ro up ((wv).tmod 5) != 0) = false := bne_eq_false_iff_eq.2 h17
                refine .cond_f (b := (masterF W R ro up ((wv).tmod 5) != 0)) rfl h17b ?_
                refine .skip ?_
                refine .reg ?_
                refine .q rfl (q_move (q := vi .i64 (wv)) rfl rfl) ?_
                refine .q rfl (q_bin (v := .int .i64 (wv - 1)) rfl rfl rfl (sub64 (by omega))) ?_
                refine .q rfl (q_assign (q := vi .i64 ((wv - 1))) rfl rfl) ?_
                refine .nil ?_
                exact ⟨⟨j - 1, (wv - 1), ot⟩, ⟨by omega, by omega, by rw [bey_step _ _ _ _ _ (by omega) hj, ← hwv, if_neg (fun h => h h17)]; exact hot⟩, rfl, (by show j - 1 < j; omega)⟩
              · skip
                have h17b : (masterF W R ro up ((wv).tmod 5) != 0) = true := bne_iff_ne.2 h17
                refine .cond_t (b := (masterF W R ro up ((wv).tmod 5) != 0)) rfl h17b ?_
                refine .reg ?_
                refine .q rfl (q_move (q := vi .i64 (masterF W R ro up ((wv).tmod 5))) rfl rfl) ?_
                refine .q rfl (q_assign (q := vi .i64 (masterF W R ro up ((wv).tmod 5))) rfl rfl) ?_
                refine .nil ?_
                refine .reg ?_
                refine .q rfl (q_move (q := vi .i64 (wv)) rfl rfl) ?_
                refine .q rfl (q_bin (v := .int .i64 (wv - 1)) rfl rfl rfl (sub64 (by omega))) ?_
                refine .q rfl (q_assign (q := vi .i64 ((wv - 1))) rfl rfl) ?_
                refine .nil ?_
                exact ⟨⟨j - 1, (wv - 1), masterF W R ro up ((wv).tmod 5)⟩, ⟨by omega, by omega, by rw [bey_step _ _ _ _ _ (by omega) hj, ← hwv, if_pos h17]⟩, rfl, (by show j - 1 < j; omega)⟩
            · skip
              have h16b : decide (wv > ofF W (rep)) = false := decide_eq_false h16
              refine .cond_f (b := decide (wv > ofF W (rep))) rfl h16b ?_
              refine .exit ?_
              refine .seq ?_
              refine .seq ?_
              refine .reg ?_
              refine .q rfl (q_move (q := vi .u64 (time)) rfl rfl) ?_
              refine .q rfl (q_rem (a := time) (b := 2) rfl rfl rfl (by decide)) ?_
              refine .q rfl (q_bin (v := .bool (((time).tmod 2 == 1))) rfl rfl rfl rfl) ?_
              refine .q rfl (q_move (q := vb (((time).tmod 2 == 1))) rfl rfl) ?_
              by_cases h18 : (time).tmod 2 = 1
              · skip
                have h18b : ((time).tmod 2 == 1) = true := beq_iff_eq.2 h18
                refine .q (guard_y rfl h18b) (q_move (q := vi .i64 (ot)) rfl rfl) ?_
                refine .q (guard_y rfl h18b) (q_bin (v := .bool ((ot != 0))) rfl rfl rfl rfl) ?_
                refine .q rfl (q_pick_t (b := ((time).tmod 2 == 1)) (q := vb ((ot != 0))) rfl rfl h18b rfl) ?_
                refine .q rfl (q_move (q := vb ((ot != 0))) rfl rfl) ?_
                by_cases h19 : ot = 0
                · skip
                  have h19b : (ot != 0) = false := bne_eq_false_iff_eq.2 h19
                  refine .q (guard_y rfl h19b) (q_move (q := vi .i64 (nextF W R ro up (rep))) rfl rfl) ?_
                  refine .q (guard_y rfl h19b) (q_bin (v := .bool ((nextF W R ro up (rep) == 0))) rfl rfl rfl rfl) ?_
                  refine .q rfl (q_pick_f (b := (ot != 0)) (q := vb ((nextF W R ro up (rep) == 0))) rfl rfl h19b rfl) ?_
                  refine .nil ?_
                  by_cases h20 : nextF W R ro up (rep) = 0
                  · skip
                    have h20b : (nextF W R ro up (rep) == 0) = true := beq_iff_eq.2 h20
                    refine .cond_t (b := (nextF W R ro up (rep) == 0)) rfl h20b ?_
                    refine .seq ?_
                    refine .reg ?_
                    refine .q rfl (q_move (q := vi .i64 (ot)) rfl rfl) ?_
                    refine .q rfl (q_assign (q := vi .i64 (ot)) rfl rfl) ?_
                    refine .nil ?_
                    refine .ret ?_
                    exact ⟨_, res_one rfl (q := vi .i64 (ot)) rfl, (by show vi .i64 _ = vi .i64 _; congr 1; have hbe : ot = beyondF W R ro up (ofF W rep) := (by rw [hot, show j = 0 from by omega]; rfl); unfold whomF; rw [if_neg (by rw [(here_mk h1 h2 h3 h4)]; simp), if_neg (by exact fun h => h hmas), if_pos (.inl h20), hbe])⟩
                  · skip
                    have h20b : (nextF W R ro up (rep) == 0) = false := beq_eq_false_iff_ne.2 h20
                    refine .cond_f (b := (nextF W R ro up (rep) == 0)) rfl h20b ?_
                    refine .skip ?_
                    refine .seq ?_
                    refine .reg ?_
                    refine .q rfl (q_move (q := vi .i64 (nextF W R ro up (rep))) rfl rfl) ?_
                    refine .q rfl (q_assign (q := vi .i64 (nextF W R ro up (rep))) rfl rfl) ?_
                    refine .nil ?_
                    refine .ret ?_
                    exact ⟨_, res_one rfl (q := vi .i64 (nextF W R ro up (rep))) rfl, (by show vi .i64 _ = vi .i64 _; congr 1; have hbe : ot = beyondF W R ro up (ofF W rep) := (by rw [hot, show j = 0 from by omega]; rfl); unfold whomF; rw [if_neg (by rw [(here_mk h1 h2 h3 h4)]; simp), if_neg (by exact fun h => h hmas), if_neg (by rintro (h | h); exact h20 h; exact h.2 (hbe ▸ h19))])⟩
                · skip
                  have h19b : (ot != 0) = true := bne_iff_ne.2 h19
                  refine .no (guard_n rfl h19b) ?_
                  refine .no (guard_n rfl h19b) ?_
                  refine .q rfl (q_pick_t (b := (ot != 0)) (q := vb (true)) rfl rfl h19b rfl) ?_
                  refine .nil ?_
                  refine .cond (b := true) rfl ?_
                  refine .seq ?_
                  refine .reg ?_
                  refine .q rfl (q_move (q := vi .i64 (ot)) rfl rfl) ?_
                  refine .q rfl (q_assign (q := vi .i64 (ot)) rfl rfl) ?_
                  refine .nil ?_
                  refine .ret ?_
                  exact ⟨_, res_one rfl (q := vi .i64 (ot)) rfl, (by show vi .i64 _ = vi .i64 _; congr 1; have hbe : ot = beyondF W R ro up (ofF W rep) := (by rw [hot, show j = 0 from by omega]; rfl); unfold whomF; rw [if_neg (by rw [(here_mk h1 h2 h3 h4)]; simp), if_neg (by exact fun h => h hmas), if_pos (.inr ⟨h18, hbe ▸ h19⟩), hbe])⟩
              · skip
                have h18b : ((time).tmod 2 == 1) = false := beq_eq_false_iff_ne.2 h18
                refine .no (guard_n rfl h18b) ?_
                refine .no (guard_n rfl h18b) ?_
                refine .q rfl (q_pick_f (b := ((time).tmod 2 == 1)) (q := vb (false)) rfl rfl h18b rfl) ?_
                refine .q rfl (q_move (q := vb (false)) rfl rfl) ?_
                refine .q rfl (q_move (q := vi .i64 (nextF W R ro up (rep))) rfl rfl) ?_
                refine .q rfl (q_bin (v := .bool ((nextF W R ro up (rep) == 0))) rfl rfl rfl rfl) ?_
                refine .q rfl (q_pick_f (b := false) (q := vb ((nextF W R ro up (rep) == 0))) rfl rfl rfl rfl) ?_
                refine .nil ?_
                by_cases h21 : nextF W R ro up (rep) = 0
                · skip
                  have h21b : (nextF W R ro up (rep) == 0) = true := beq_iff_eq.2 h21
                  refine .cond_t (b := (nextF W R ro up (rep) == 0)) rfl h21b ?_
                  refine .seq ?_
                  refine .reg ?_
                  refine .q rfl (q_move (q := vi .i64 (ot)) rfl rfl) ?_
                  refine .q rfl (q_assign (q := vi .i64 (ot)) rfl rfl) ?_
                  refine .nil ?_
                  refine .ret ?_
                  exact ⟨_, res_one rfl (q := vi .i64 (ot)) rfl, (by show vi .i64 _ = vi .i64 _; congr 1; have hbe : ot = beyondF W R ro up (ofF W rep) := (by rw [hot, show j = 0 from by omega]; rfl); unfold whomF; rw [if_neg (by rw [(here_mk h1 h2 h3 h4)]; simp), if_neg (by exact fun h => h hmas), if_pos (.inl h21), hbe])⟩
                · skip
                  have h21b : (nextF W R ro up (rep) == 0) = false := beq_eq_false_iff_ne.2 h21
                  refine .cond_f (b := (nextF W R ro up (rep) == 0)) rfl h21b ?_
                  refine .skip ?_
                  refine .seq ?_
                  refine .reg ?_
                  refine .q rfl (q_move (q := vi .i64 (nextF W R ro up (rep))) rfl rfl) ?_
                  refine .q rfl (q_assign (q := vi .i64 (nextF W R ro up (rep))) rfl rfl) ?_
                  refine .nil ?_
                  refine .ret ?_
                  exact ⟨_, res_one rfl (q := vi .i64 (nextF W R ro up (rep))) rfl, (by show vi .i64 _ = vi .i64 _; congr 1; unfold whomF; rw [if_neg (by rw [(here_mk h1 h2 h3 h4)]; simp), if_neg (by exact fun h => h hmas), if_neg (by rintro (h | h); exact h21 h; exact h18 h.1)])⟩
      · skip
        refine .no (guard_n rfl (not_f h3)) ?_
        refine .no (guard_n rfl (not_f h3)) ?_
        refine .no (guard_n rfl (not_f h3)) ?_
        refine .no (guard_n rfl (not_f h3)) ?_
        refine .no (guard_n rfl (not_f h3)) ?_
        refine .q rfl (q_pick_t (b := !(ro ((rep - 1)).toNat)) (q := vb (true)) rfl rfl (not_f h3) rfl) ?_
        refine .nil ?_
        refine .cond (b := true) rfl ?_
        refine .seq ?_
        refine .reg ?_
        refine .q rfl (q_assign (q := vi .i64 (0)) rfl rfl) ?_
        refine .nil ?_
        refine .ret ?_
        exact ⟨_, res_one rfl (q := vi .i64 (0)) rfl, (by show vi .i64 _ = vi .i64 _; congr 1; unfold whomF; rw [if_pos (here_no3 h3)])⟩

theorem lives_spec (k : Nat) : ACalls Try.prog 8 [] [] k (fun p _ _ => p = vb true) := by
  refine ACalls.of_body (n := 30) Try.func8 rfl rfl ?_
  refine .seq ?_
  refine .reg ?_
  refine .q rfl (q_assign (q := vb (false)) rfl rfl) ?_
  refine .nil ?_
  refine .seq ?_
  refine .reg ?_
  refine .q rfl (q_build (z := zeroC22) (ps := [(0, vi .i64 (1)), (1, vi .i64 (1)), (2, vi .i64 (2)), (3, vi .i64 (2))]) (r := [vi .i64 (1), vi .i64 (1), vi .i64 (2), vi .i64 (2), vi .i64 0, vi .i64 0, vi .i64 0, vi .i64 0]) rfl zero22 zeroLeaf22 fldsOk22 rfl ⟨_, _, place22_0, rfl, rfl, by decide, ⟨_, _, place22_1, rfl, rfl, by decide, ⟨_, _, place22_2, rfl, rfl, by decide, ⟨_, _, place22_3, rfl, rfl, by decide, rfl⟩⟩⟩⟩) ?_
  refine .q rfl (q_build (z := zeroC33) (ps := [(3, .agg ([vi .i64 (1), vi .i64 (1), vi .i64 (2), vi .i64 (2), vi .i64 0, vi .i64 0, vi .i64 0, vi .i64 0]))]) (r := [vi .u32 0, vi .u32 0, vi .u32 0, vi .u32 0, vi .u32 0, vi .u32 0, vi .u32 0, vi .u32 0, .tr 0 [] .full, .tr 0 [] .full, vi .i64 (1), vi .i64 (1), vi .i64 (2), vi .i64 (2), vi .i64 0, vi .i64 0, vi .i64 0, vi .i64 0, vb false, vb false, vb false, vb false, vb false, vb false, vb false, vb false]) rfl zero33 zeroLeaf33 fldsOk33 rfl ⟨_, _, place33_3, rfl, rfl, by decide, rfl⟩) ?_
  refine .e rfl (step_alloc rfl zero33 zeroLeaf33 ?_)
  refine .e rfl (step_store' (q := [vi .u32 0, vi .u32 0, vi .u32 0, vi .u32 0, vi .u32 0, vi .u32 0, vi .u32 0, vi .u32 0, .tr 0 [] .full, .tr 0 [] .full, vi .i64 (1), vi .i64 (1), vi .i64 (2), vi .i64 (2), vi .i64 0, vi .i64 0, vi .i64 0, vi .i64 0, vb false, vb false, vb false, vb false, vb false, vb false, vb false, vb false]) rfl rfl tySz33 rfl rfl rfl rfl rfl (by decide) (splice_all rfl rfl) ?_)
  refine .nil ?_
  refine .seq ?_
  refine .reg ?_
  refine .q rfl (q_build (z := zeroC23) (ps := [(0, vb (true)), (1, vb (true)), (2, vb (true)), (3, vb (true))]) (r := [vb (true), vb (true), vb (true), vb (true), vb false, vb false, vb false, vb false]) rfl zero23 zeroLeaf23 fldsOk23 rfl ⟨_, _, place23_0, rfl, rfl, by decide, ⟨_, _, place23_1, rfl, rfl, by decide, ⟨_, _, place23_2, rfl, rfl, by decide, ⟨_, _, place23_3, rfl, rfl, by decide, rfl⟩⟩⟩⟩) ?_
  refine .e rfl (step_alloc rfl zero23 zeroLeaf23 ?_)
  refine .e rfl (step_store' (q := [vb (true), vb (true), vb (true), vb (true), vb false, vb false, vb false, vb false]) rfl rfl tySz23 rfl rfl rfl rfl rfl (by decide) (splice_all rfl rfl) ?_)
  refine .nil ?_
  refine .seq ?_
  refine .reg ?_
  refine .q rfl (q_load (q := .agg ([vi .u32 0, vi .u32 0, vi .u32 0, vi .u32 0, vi .u32 0, vi .u32 0, vi .u32 0, vi .u32 0, .tr 0 [] .full, .tr 0 [] .full, vi .i64 (1), vi .i64 (1), vi .i64 (2), vi .i64 (2), vi .i64 0, vi .i64 0, vi .i64 0, vi .i64 0, vb false, vb false, vb false, vb false, vb false, vb false, vb false, vb false])) rfl rfl (loads_whole (b := 0) (cs := [vi .u32 0, vi .u32 0, vi .u32 0, vi .u32 0, vi .u32 0, vi .u32 0, vi .u32 0, vi .u32 0, .tr 0 [] .full, .tr 0 [] .full, vi .i64 (1), vi .i64 (1), vi .i64 (2), vi .i64 (2), vi .i64 0, vi .i64 0, vi .i64 0, vi .i64 0, vb false, vb false, vb false, vb false, vb false, vb false, vb false, vb false]) tyAgg33 tySz33 rfl rfl)) ?_
  refine .q rfl (q_load (q := .agg ([vb (true), vb (true), vb (true), vb (true), vb false, vb false, vb false, vb false])) rfl rfl (loads_whole (b := 1) (cs := [vb (true), vb (true), vb (true), vb (true), vb false, vb false, vb false, vb false]) tyAgg23 tySz23 rfl rfl)) ?_
  refine .q rfl (q_load (q := .agg ([vb (true), vb (true), vb (true), vb (true), vb false, vb false, vb false, vb false])) rfl rfl (loads_whole (b := 1) (cs := [vb (true), vb (true), vb (true), vb (true), vb false, vb false, vb false, vb false]) tyAgg23 tySz23 rfl rfl)) ?_
  refine .q rfl (q_call (ps := [.agg ([vi .u32 0, vi .u32 0, vi .u32 0, vi .u32 0, vi .u32 0, vi .u32 0, vi .u32 0, vi .u32 0, .tr 0 [] .full, .tr 0 [] .full, vi .i64 (1), vi .i64 (1), vi .i64 (2), vi .i64 (2), vi .i64 0, vi .i64 0, vi .i64 0, vi .i64 0, vb false, vb false, vb false, vb false, vb false, vb false, vb false, vb false]), .agg ([vb (true), vb (true), vb (true), vb (true), vb false, vb false, vb false, vb false]), .agg ([vb (true), vb (true), vb (true), vb (true), vb false, vb false, vb false, vb false]), vi .i64 (2), vi .u64 (0)]) (r := vi .i64 (whomF liveW (fun _ => false) liveU liveU (2) (0))) rfl callable18 rfl ⟨(by simp [Pures, Go.Ab.Pure, Tail.isTok]), (by simp [Pures, Go.Ab.Pure, Tail.isTok]), (by simp [Pures, Go.Ab.Pure, Tail.isTok]), trivial, trivial, trivial⟩ trivial (whom_spec live_is live_up live_up live_bd (2) (0))) ?_
  refine .q rfl (q_bin (v := .bool ((whomF liveW (fun _ => false) liveU liveU (2) (0) == 1))) rfl rfl rfl rfl) ?_
  refine .q rfl (q_move (q := vb ((whomF liveW (fun _ => false) liveU liveU (2) (0) == 1))) rfl rfl) ?_
  refine .q (guard_y rfl (by rfl)) (q_load (q := .agg ([vi .u32 0, vi .u32 0, vi .u32 0, vi .u32 0, vi .u32 0, vi .u32 0, vi .u32 0, vi .u32 0, .tr 0 [] .full, .tr 0 [] .full, vi .i64 (1), vi .i64 (1), vi .i64 (2), vi .i64 (2), vi .i64 0, vi .i64 0, vi .i64 0, vi .i64 0, vb false, vb false, vb false, vb false, vb false, vb false, vb false, vb false])) rfl rfl (loads_whole (b := 0) (cs := [vi .u32 0, vi .u32 0, vi .u32 0, vi .u32 0, vi .u32 0, vi .u32 0, vi .u32 0, vi .u32 0, .tr 0 [] .full, .tr 0 [] .full, vi .i64 (1), vi .i64 (1), vi .i64 (2), vi .i64 (2), vi .i64 0, vi .i64 0, vi .i64 0, vi .i64 0, vb false, vb false, vb false, vb false, vb false, vb false, vb false, vb false]) tyAgg33 tySz33 rfl rfl)) ?_
  refine .q (guard_y rfl (by rfl)) (q_load (q := .agg ([vb (true), vb (true), vb (true), vb (true), vb false, vb false, vb false, vb false])) rfl rfl (loads_whole (b := 1) (cs := [vb (true), vb (true), vb (true), vb (true), vb false, vb false, vb false, vb false]) tyAgg23 tySz23 rfl rfl)) ?_
  refine .q (guard_y rfl (by rfl)) (q_load (q := .agg ([vb (true), vb (true), vb (true), vb (true), vb false, vb false, vb false, vb false])) rfl rfl (loads_whole (b := 1) (cs := [vb (true), vb (true), vb (true), vb (true), vb false, vb false, vb false, vb false]) tyAgg23 tySz23 rfl rfl)) ?_
  refine .q (guard_y rfl (by rfl)) (q_call (ps := [.agg ([vi .u32 0, vi .u32 0, vi .u32 0, vi .u32 0, vi .u32 0, vi .u32 0, vi .u32 0, vi .u32 0, .tr 0 [] .full, .tr 0 [] .full, vi .i64 (1), vi .i64 (1), vi .i64 (2), vi .i64 (2), vi .i64 0, vi .i64 0, vi .i64 0, vi .i64 0, vb false, vb false, vb false, vb false, vb false, vb false, vb false, vb false]), .agg ([vb (true), vb (true), vb (true), vb (true), vb false, vb false, vb false, vb false]), .agg ([vb (true), vb (true), vb (true), vb (true), vb false, vb false, vb false, vb false]), vi .i64 (1), vi .u64 (0)]) (r := vi .i64 (whomF liveW (fun _ => false) liveU liveU (1) (0))) rfl callable18 rfl ⟨(by simp [Pures, Go.Ab.Pure, Tail.isTok]), (by simp [Pures, Go.Ab.Pure, Tail.isTok]), (by simp [Pures, Go.Ab.Pure, Tail.isTok]), trivial, trivial, trivial⟩ trivial (whom_spec live_is live_up live_up live_bd (1) (0))) ?_
  refine .q (guard_y rfl (by rfl)) (q_bin (v := .bool ((whomF liveW (fun _ => false) liveU liveU (1) (0) == 2))) rfl rfl rfl rfl) ?_
  refine .q rfl (q_pick_t (b := (whomF liveW (fun _ => false) liveU liveU (2) (0) == 1)) (q := vb ((whomF liveW (fun _ => false) liveU liveU (1) (0) == 2))) rfl rfl (by rfl) rfl) ?_
  refine .q rfl (q_move (q := vb ((whomF liveW (fun _ => false) liveU liveU (1) (0) == 2))) rfl rfl) ?_
  refine .q (guard_y rfl (by rfl)) (q_load (q := .agg ([vi .u32 0, vi .u32 0, vi .u32 0, vi .u32 0, vi .u32 0, vi .u32 0, vi .u32 0, vi .u32 0, .tr 0 [] .full, .tr 0 [] .full, vi .i64 (1), vi .i64 (1), vi .i64 (2), vi .i64 (2), vi .i64 0, vi .i64 0, vi .i64 0, vi .i64 0, vb false, vb false, vb false, vb false, vb false, vb false, vb false, vb false])) rfl rfl (loads_whole (b := 0) (cs := [vi .u32 0, vi .u32 0, vi .u32 0, vi .u32 0, vi .u32 0, vi .u32 0, vi .u32 0, vi .u32 0, .tr 0 [] .full, .tr 0 [] .full, vi .i64 (1), vi .i64 (1), vi .i64 (2), vi .i64 (2), vi .i64 0, vi .i64 0, vi .i64 0, vi .i64 0, vb false, vb false, vb false, vb false, vb false, vb false, vb false, vb false]) tyAgg33 tySz33 rfl rfl)) ?_
  refine .q (guard_y rfl (by rfl)) (q_load (q := .agg ([vb (true), vb (true), vb (true), vb (true), vb false, vb false, vb false, vb false])) rfl rfl (loads_whole (b := 1) (cs := [vb (true), vb (true), vb (true), vb (true), vb false, vb false, vb false, vb false]) tyAgg23 tySz23 rfl rfl)) ?_
  refine .q (guard_y rfl (by rfl)) (q_load (q := .agg ([vb (true), vb (true), vb (true), vb (true), vb false, vb false, vb false, vb false])) rfl rfl (loads_whole (b := 1) (cs := [vb (true), vb (true), vb (true), vb (true), vb false, vb false, vb false, vb false]) tyAgg23 tySz23 rfl rfl)) ?_
  refine .q (guard_y rfl (by rfl)) (q_call (ps := [.agg ([vi .u32 0, vi .u32 0, vi .u32 0, vi .u32 0, vi .u32 0, vi .u32 0, vi .u32 0, vi .u32 0, .tr 0 [] .full, .tr 0 [] .full, vi .i64 (1), vi .i64 (1), vi .i64 (2), vi .i64 (2), vi .i64 0, vi .i64 0, vi .i64 0, vi .i64 0, vb false, vb false, vb false, vb false, vb false, vb false, vb false, vb false]), .agg ([vb (true), vb (true), vb (true), vb (true), vb false, vb false, vb false, vb false]), .agg ([vb (true), vb (true), vb (true), vb (true), vb false, vb false, vb false, vb false]), vi .i64 (1), vi .u64 (1)]) (r := vi .i64 (whomF liveW (fun _ => false) liveU liveU (1) (1))) rfl callable18 rfl ⟨(by simp [Pures, Go.Ab.Pure, Tail.isTok]), (by simp [Pures, Go.Ab.Pure, Tail.isTok]), (by simp [Pures, Go.Ab.Pure, Tail.isTok]), trivial, trivial, trivial⟩ trivial (whom_spec live_is live_up live_up live_bd (1) (1))) ?_
  refine .q (guard_y rfl (by rfl)) (q_bin (v := .bool ((whomF liveW (fun _ => false) liveU liveU (1) (1) == 3))) rfl rfl rfl rfl) ?_
  refine .q rfl (q_pick_t (b := (whomF liveW (fun _ => false) liveU liveU (1) (0) == 2)) (q := vb ((whomF liveW (fun _ => false) liveU liveU (1) (1) == 3))) rfl rfl (by rfl) rfl) ?_
  refine .q rfl (q_move (q := vb ((whomF liveW (fun _ => false) liveU liveU (1) (1) == 3))) rfl rfl) ?_
  refine .q (guard_y rfl (by rfl)) (q_load (q := .agg ([vi .u32 0, vi .u32 0, vi .u32 0, vi .u32 0, vi .u32 0, vi .u32 0, vi .u32 0, vi .u32 0, .tr 0 [] .full, .tr 0 [] .full, vi .i64 (1), vi .i64 (1), vi .i64 (2), vi .i64 (2), vi .i64 0, vi .i64 0, vi .i64 0, vi .i64 0, vb false, vb false, vb false, vb false, vb false, vb false, vb false, vb false])) rfl rfl (loads_whole (b := 0) (cs := [vi .u32 0, vi .u32 0, vi .u32 0, vi .u32 0, vi .u32 0, vi .u32 0, vi .u32 0, vi .u32 0, .tr 0 [] .full, .tr 0 [] .full, vi .i64 (1), vi .i64 (1), vi .i64 (2), vi .i64 (2), vi .i64 0, vi .i64 0, vi .i64 0, vi .i64 0, vb false, vb false, vb false, vb false, vb false, vb false, vb false, vb false]) tyAgg33 tySz33 rfl rfl)) ?_
  refine .q (guard_y rfl (by rfl)) (q_call (ps := [.agg ([vi .u32 0, vi .u32 0, vi .u32 0, vi .u32 0, vi .u32 0, vi .u32 0, vi .u32 0, vi .u32 0, .tr 0 [] .full, .tr 0 [] .full, vi .i64 (1), vi .i64 (1), vi .i64 (2), vi .i64 (2), vi .i64 0, vi .i64 0, vi .i64 0, vi .i64 0, vb false, vb false, vb false, vb false, vb false, vb false, vb false, vb false]), vi .i64 (3)]) (r := vi .i64 (ofF liveW (3))) rfl callable12 rfl ⟨(by simp [Pures, Go.Ab.Pure, Tail.isTok]), trivial, trivial⟩ trivial (of_spec live_is (3))) ?_
  refine .q (guard_y rfl (by rfl)) (q_bin (v := .bool ((ofF liveW (3) == 2))) rfl rfl rfl rfl) ?_
  refine .q rfl (q_pick_t (b := (whomF liveW (fun _ => false) liveU liveU (1) (1) == 3)) (q := vb ((ofF liveW (3) == 2))) rfl rfl (by rfl) rfl) ?_
  refine .q rfl (q_assign (q := vb ((ofF liveW (3) == 2))) rfl rfl) ?_
  refine .nil ?_
  refine .ret ?_
  exact ⟨_, res_one rfl (q := vb ((ofF liveW (3) == 2))) rfl, (by rfl)⟩

theorem state_spec {PC : List PV} {W : Nat → Int} {R ro up : Nat → Bool} (hP : IsPl PC W R ro up) (k : Nat) : ACalls Try.prog 9 [.agg PC] [] k (fun p _ _ => p = .agg (stTo PC zSt W 8)) := by
  refine ACalls.of_body (n := 25) Try.func9 rfl rfl ?_
  refine .seq ?_
  refine .reg ?_
  refine .e rfl (step_box (p := .agg (PC)) rfl rfl rfl ?_)
  refine .e rfl (step_alloc rfl zero33 zeroLeaf33 ?_)
  refine .nil ?_
  refine .seq ?_
  refine .reg ?_
  refine .q rfl (q_field (fo := 0) rfl fo25_0 rfl) ?_
  refine .q rfl (q_load (q := .agg (((PC).drop 0).take 8)) rfl rfl (loads_row (b := 0) (off := 0) (n := 8) (cs := PC) tyAgg22 tySz22 rfl rfl (by simp [hP.len]))) ?_
  refine .q rfl (q_field (fo := 8) rfl fo25_1 rfl) ?_
  refine .q rfl (q_load (q := .agg (((PC).drop 8).take 8)) rfl rfl (loads_row (b := 0) (off := 8) (n := 8) (cs := PC) tyAgg23 tySz23 rfl rfl (by simp [hP.len]))) ?_
  refine .q rfl (q_build (z := zSt) (ps := [(3, .agg (((PC).drop 0).take 8)), (4, .agg (((PC).drop 8).take 8))]) (r := stC PC zSt) rfl zero33 zeroLeaf33 fldsOk33 rfl ⟨_, _, place33_3, rfl, by simp [cellsOf, hP.len], by decide, _, _, place33_4, rfl, by simp [cellsOf, hP.len], (by rw [splice_length _ _ _ (by simp [cellsOf, hP.len, zSt])]; decide), rfl⟩) ?_
  refine .e rfl (step_alloc rfl zero33 zeroLeaf33 ?_)
  refine .e rfl (step_store' (q := stC PC zSt) rfl rfl tySz33 rfl rfl rfl (stC_is hP).len rfl (by decide) (splice_all rfl (stC_is hP).len) ?_)
  refine .nil ?_
  refine .seq ?_
  refine .seq ?_
  refine .reg ?_
  refine .q rfl (q_move (q := vi .i64 (0)) rfl rfl) ?_
  refine .nil ?_
  refine .block ?_
  refine .loopK (S := Nat) [1, 2, 3, 10] (fun i => ⟨25, [(1, .ptr 0 (0)), (2, .ptr 1 (0)), (3, .ptr 2 (0)), (10, vi .i64 ((i : Int)))], [.row (PC) 25, .row (zeroC33) 33, .row (stTo PC zSt W i) 33], List.replicate k false⟩) (fun i => i ≤ 8) (fun i => 8 - i) 0 (Nat.zero_le _) rfl ?_
  intro i hi
  refine .seq ?_
  refine .reg ?_
  refine .q rfl (q_bin (v := .bool (decide ((i : Int) < 8))) rfl rfl rfl rfl) ?_
  refine .nil ?_
  refine .seq ?_
  by_cases h1 : (i : Int) < 8
  · skip
    have h1b : decide ((i : Int) < 8) = true := decide_eq_true h1
    refine .cond_t (b := decide ((i : Int) < 8)) rfl h1b ?_
    refine .skip ?_
    refine .seq ?_
    refine .block ?_
    refine .seq ?_
    refine .reg ?_
    refine .q rfl (q_move (q := vi .i64 ((i : Int))) rfl rfl) ?_
    refine .q rfl (q_assign (q := vi .i64 ((i : Int))) rfl rfl) ?_
    refine .nil ?_
    refine .reg ?_
    refine .q rfl (q_move (q := vi .i64 ((i : Int))) rfl rfl) ?_
    refine .q rfl (q_move (q := vi .i64 ((i : Int))) rfl rfl) ?_
    refine .q rfl (q_field (fo := 10) rfl fo33_3 rfl) ?_
    refine .q rfl (q_iptr (off' := 10 + ((i : Int)).toNat) rfl tyUn22 tySz3 rfl rfl (by omega) (by omega) (by omega)) ?_
    refine .q rfl (q_load (q := vi .i64 (W i)) rfl rfl (loads_cell (b := 2) (off := 10 + ((i : Int)).toNat) (cs := stTo PC zSt W i) tyAgg3 rfl (by have := (stTo_is hP i (by omega)).w i (by omega); simpa using this))) ?_
    refine .q rfl (q_conv (k' := .u64) (a := W i) rfl tyUn3 tyUn44 rfl) ?_
    refine .q rfl (q_rem (a := IntKind.u64.wrap (W i)) (b := 5) rfl rfl rfl (by decide)) ?_
    refine .q rfl (q_conv (k' := .i64) (a := (IntKind.u64.wrap (W i)).tmod 5) rfl tyUn44 tyUn3 rfl) ?_
    refine .q rfl (q_field (fo := 10) rfl fo33_3 rfl) ?_
    refine .q rfl (q_iptr (off' := 10 + ((i : Int)).toNat) rfl tyUn22 tySz3 rfl rfl (by omega) (by omega) (by omega)) ?_
    refine .e rfl (step_store' (q := splice (stTo PC zSt W i) (10 + ((i : Int)).toNat) [vi .i64 (IntKind.i64.wrap ((IntKind.u64.wrap (W i)).tmod 5))]) rfl rfl tySz3 rfl rfl rfl rfl rfl (by rw [(stTo_is hP i (by omega)).len]; omega) rfl ?_)
    refine .nil ?_
    refine .reg ?_
    refine .q rfl (q_bin (v := .int .i64 (((i : Int)) + 1)) rfl rfl rfl (add64 (by omega))) ?_
    refine .q rfl (q_move (q := vi .i64 ((((i : Int)) + 1))) rfl rfl) ?_
    refine .nil ?_
    exact ⟨i + 1, (by omega), rfl, (by show 8 - (i + 1) < 8 - i; omega)⟩
  · skip
    have h1b : decide ((i : Int) < 8) = false := decide_eq_false h1
    refine .cond_f (b := decide ((i : Int) < 8)) rfl h1b ?_
    refine .exit ?_
    refine .seq ?_
    refine .reg ?_
    refine .q rfl (q_load (q := .agg (stTo PC zSt W i)) rfl rfl (loads_whole (b := 2) (cs := stTo PC zSt W i) tyAgg33 tySz33 rfl (stTo_is hP i (by omega)).len)) ?_
    refine .e rfl (step_store' (q := stTo PC zSt W i) rfl rfl tySz33 rfl rfl rfl (stTo_is hP i (by omega)).len rfl (by decide) (splice_all rfl (stTo_is hP i (by omega)).len) ?_)
    refine .nil ?_
    refine .ret ?_
    exact ⟨_, res_one rfl (q := .agg (stTo PC zSt W i)) ⟨_, rfl, (loads_whole (b := 1) (cs := stTo PC zSt W i) tyAgg33 tySz33 rfl (stTo_is hP i (by omega)).len)⟩, (by rw [show i = 8 from by omega])⟩

theorem wardMembers_calls {PC : List PV} {W : Nat → Int} {R ro up : Nat → Bool} (hP : IsPl PC W R ro up) (w rep : Int) (k : Nat) : ACalls Try.prog 3 [.agg PC, vi .i64 w, vi .i64 rep] [] k (fun p _ _ => p = vb true) := by
  have hST := stEnd_is hP
  have hst := state_spec hP
  revert hST hst
  generalize stTo PC zSt W 8 = ST
  intro hST hst
  have hL0 : ((PC.drop 0).take 8).length = 8 := by simp [hP.len]
  have hL8 : ((PC.drop 8).take 8).length = 8 := by simp [hP.len]
  have hL16 : ((PC.drop 16).take 8).length = 8 := by simp [hP.len]
  have hL24 : ((PC.drop 24).take 8).length = 8 := by simp [hP.len]
  have hl : ∀ m, m ∈ membersF (wm W) R ro w → 1 ≤ m ∧ m ≤ 8 := fun m h => members_lo h
  have hlen := ring_len (wm W) R ro w
  refine ACalls.of_body (n := 69) Try.func3 rfl rfl ?_
  refine .seq ?_
  refine .reg ?_
  refine .e rfl (step_box (p := .agg (PC)) rfl rfl rfl ?_)
  refine .q rfl (q_assign (q := vb (false)) rfl rfl) ?_
  refine .nil ?_
  refine .seq ?_
  refine .seq ?_
  refine .reg ?_
  refine .q rfl (q_call (ps := []) (r := vb (true)) rfl callable8 rfl trivial trivial lives_spec) ?_
  refine .q rfl (q_not (a := true) rfl rfl) ?_
  refine .nil ?_
  refine .cond (b := false) rfl ?_
  refine .skip ?_
  refine .seq ?_
  refine .reg ?_
  refine .q rfl (q_load (q := .agg (PC)) rfl rfl (loads_whole (b := 0) (cs := PC) tyAgg25 tySz25 rfl hP.len)) ?_
  refine .q rfl (q_call (ps := [.agg (PC)]) (r := .agg (ST)) rfl callable9 rfl ⟨hP.pure, trivial⟩ hST.pure hst) ?_
  refine .e rfl (step_alloc rfl zero33 zeroLeaf33 ?_)
  refine .e rfl (step_store' (q := ST) rfl rfl tySz33 rfl rfl rfl hST.len rfl (by decide) (splice_all rfl hST.len) ?_)
  refine .nil ?_
  refine .seq ?_
  refine .drw (n := 69) [.agg (ST), .ptr 0 (16), .agg (((PC).drop 16).take 8), vi .i64 (w), .tr ((membersF (wm W) R ro (w)).length) ((membersF (wm W) R ro (w)).map (vi .i64)) .no, .agg (ST), .ptr 0 (16), .agg (((PC).drop 16).take 8), vi .i64 (w), .tr ((membersF (wm W) R ro (w)).length) ((membersF (wm W) R ro (w)).map (vi .i64)) .no, .tr ((membersF (wm W) R ro (w)).length) ((membersF (wm W) R ro (w)).map (vi .i64)) .no, .tr ((membersF (wm W) R ro (w)).length) ((membersF (wm W) R ro (w)).map (vi .i64)) .no] follows rfl (by kernel_rfl) (by kernel_rfl) ?_ ?_
  · skip
    refine .q rfl (q_load (q := .agg (ST)) rfl rfl (loads_whole (b := 1) (cs := ST) tyAgg33 tySz33 rfl hST.len)) ?_
    refine .q rfl (q_field (fo := 16) rfl fo25_2 rfl) ?_
    refine .q rfl (q_load (q := .agg (((PC).drop 16).take 8)) rfl rfl (loads_row (b := 0) (off := 16) (n := 8) (cs := PC) tyAgg23 tySz23 rfl rfl hL16)) ?_
    refine .q rfl (q_move (q := vi .i64 (w)) rfl rfl) ?_
    refine .q rfl (q_call (ps := [.agg (ST), .agg (((PC).drop 16).take 8), vi .i64 (w)]) (r := .tr ((membersF (wm W) R ro (w)).length) ((membersF (wm W) R ro (w)).map (vi .i64)) .no) rfl callable10 rfl ⟨hST.pure, (hP.pure.part 16 8), trivial, trivial⟩ ⟨rfl, (Pures_iff.2 (fun p hp => by simp at hp; obtain ⟨x, _, rfl⟩ := hp; trivial))⟩ (members_spec hST hP.roB (w))) ?_
    refine .q rfl (q_load (q := .agg (ST)) rfl rfl (loads_whole (b := 1) (cs := ST) tyAgg33 tySz33 rfl hST.len)) ?_
    refine .q rfl (q_field (fo := 16) rfl fo25_2 rfl) ?_
    refine .q rfl (q_load (q := .agg (((PC).drop 16).take 8)) rfl rfl (loads_row (b := 0) (off := 16) (n := 8) (cs := PC) tyAgg23 tySz23 rfl rfl hL16)) ?_
    refine .q rfl (q_move (q := vi .i64 (w)) rfl rfl) ?_
    refine .q rfl (q_call (ps := [.agg (ST), .agg (((PC).drop 16).take 8), vi .i64 (w)]) (r := .tr ((membersF (wm W) R ro (w)).length) ((membersF (wm W) R ro (w)).map (vi .i64)) .no) rfl callable11 rfl ⟨hST.pure, (hP.pure.part 16 8), trivial, trivial⟩ ⟨rfl, (Pures_iff.2 (fun p hp => by simp at hp; obtain ⟨x, _, rfl⟩ := hp; trivial))⟩ (members_ref hST hP.roB (w))) ?_
    refine .q rfl (q_assign (q := .tr ((membersF (wm W) R ro (w)).length) ((membersF (wm W) R ro (w)).map (vi .i64)) .no) rfl rfl) ?_
    refine .q rfl (q_assign (q := .tr ((membersF (wm W) R ro (w)).length) ((membersF (wm W) R ro (w)).map (vi .i64)) .no) rfl rfl) ?_
    exact .nil
  refine .seq ?_
  refine .seq ?_
  refine .reg ?_
  refine .q rfl (q_move (q := .tr ((membersF (wm W) R ro (w)).length) ((membersF (wm W) R ro (w)).map (vi .i64)) .no) rfl rfl) ?_
  refine .q rfl (q_len_tr rfl tyUn35 rfl) ?_
  refine .q rfl (q_move (q := .tr ((membersF (wm W) R ro (w)).length) ((membersF (wm W) R ro (w)).map (vi .i64)) .no) rfl rfl) ?_
  refine .q rfl (q_len_tr rfl tyUn35 rfl) ?_
  refine .q rfl (q_bin (v := .bool false) rfl rfl rfl (by simp [binInt])) ?_
  refine .nil ?_
  refine .cond (b := false) rfl ?_
  refine .skip ?_
  refine .seq ?_
  refine .seq ?_
  refine .reg ?_
  refine .q rfl (q_move (q := .tr ((membersF (wm W) R ro (w)).length) ((membersF (wm W) R ro (w)).map (vi .i64)) .no) rfl rfl) ?_
  refine .q rfl (q_len_tr rfl tyUn35 rfl) ?_
  refine .q rfl (q_move (q := vi .i64 (0)) rfl rfl) ?_
  refine .nil ?_
  refine .block ?_
  refine .loopK (S := Nat) [1, 2, 3, 7, 8, 9, 31, 32] (fun i => ⟨69, [(1, vi .i64 (w)), (2, vi .i64 (rep)), (3, .ptr 0 (0)), (7, .ptr 1 (0)), (8, .tr ((membersF (wm W) R ro (w)).length) ((membersF (wm W) R ro (w)).map (vi .i64)) .no), (9, .tr ((membersF (wm W) R ro (w)).length) ((membersF (wm W) R ro (w)).map (vi .i64)) .no), (31, vi .i64 ((((membersF (wm W) R ro (w)).length : Nat) : Int))), (32, vi .i64 ((i : Int)))], [.row (PC) 25, .row (ST) 33], List.replicate k false⟩) (fun i => i ≤ (membersF (wm W) R ro (w)).length) (fun i => (membersF (wm W) R ro (w)).length - i) 0 (Nat.zero_le _) rfl ?_
  intro i hi
  refine .seq ?_
  refine .reg ?_
  refine .q rfl (q_bin (v := .bool (decide ((i : Int) < (((membersF (wm W) R ro (w)).length : Nat) : Int)))) rfl rfl rfl rfl) ?_
  refine .nil ?_
  refine .seq ?_
  by_cases h1 : (i : Int) < (((membersF (wm W) R ro (w)).length : Nat) : Int)
  · skip
    have h1b : decide ((i : Int) < (((membersF (wm W) R ro (w)).length : Nat) : Int)) = true := decide_eq_true h1
    refine .cond_t (b := decide ((i : Int) < (((membersF (wm W) R ro (w)).length : Nat) : Int))) rfl h1b ?_
    refine .skip ?_
    refine .seq ?_
    refine .block ?_
    refine .seq ?_
    refine .reg ?_
    refine .q rfl (q_move (q := vi .i64 ((i : Int))) rfl rfl) ?_
    refine .q rfl (q_assign (q := vi .i64 ((i : Int))) rfl rfl) ?_
    refine .nil ?_
    refine .seq ?_
    refine .drw (n := 69) [.tr ((membersF (wm W) R ro (w)).length) ((membersF (wm W) R ro (w)).map (vi .i64)) .no, vi .i64 ((i : Int)), .fz (((membersF (wm W) R ro (w)).map (vi .i64)).drop (((i : Int)).toNat * 1)), vi .i64 ((membersF (wm W) R ro (w)).getD i 0), .tr ((membersF (wm W) R ro (w)).length) ((membersF (wm W) R ro (w)).map (vi .i64)) .no, vi .i64 ((i : Int)), .fz (((membersF (wm W) R ro (w)).map (vi .i64)).drop (((i : Int)).toNat * 1)), vi .i64 ((membersF (wm W) R ro (w)).getD i 0), vb (false)] follows rfl (by kernel_rfl) (by kernel_rfl) ?_ ?_
    · skip
      refine .q rfl (q_move (q := .tr ((membersF (wm W) R ro (w)).length) ((membersF (wm W) R ro (w)).map (vi .i64)) .no) rfl rfl) ?_
      refine .q rfl (q_move (q := vi .i64 ((i : Int))) rfl rfl) ?_
      refine .q rfl (q_index_tr (i := (i : Int)) rfl tyUn35 tySz3 rfl rfl (by omega) (by omega)) ?_
      refine .q rfl (q_load (q := vi .i64 ((membersF (wm W) R ro (w)).getD i 0)) rfl rfl (loads_fzcell tyAgg3 (cell_mapN (by omega)))) ?_
      refine .q rfl (q_move (q := .tr ((membersF (wm W) R ro (w)).length) ((membersF (wm W) R ro (w)).map (vi .i64)) .no) rfl rfl) ?_
      refine .q rfl (q_move (q := vi .i64 ((i : Int))) rfl rfl) ?_
      refine .q rfl (q_index_tr (i := (i : Int)) rfl tyUn35 tySz3 rfl rfl (by omega) (by omega)) ?_
      refine .q rfl (q_load (q := vi .i64 ((membersF (wm W) R ro (w)).getD i 0)) rfl rfl (loads_fzcell tyAgg3 (cell_mapN (by omega)))) ?_
      refine .q rfl (q_bin (v := .bool false) rfl rfl rfl (by simp [binInt])) ?_
      exact .nil
    refine .cond (b := false) rfl ?_
    refine .skip ?_
    refine .reg ?_
    refine .q rfl (q_bin (v := .int .i64 (((i : Int)) + 1)) rfl rfl rfl (add64 (by omega))) ?_
    refine .q rfl (q_move (q := vi .i64 ((((i : Int)) + 1))) rfl rfl) ?_
    refine .nil ?_
    exact ⟨i + 1, (by omega), rfl, (by show (membersF (wm W) R ro (w)).length - (i + 1) < (membersF (wm W) R ro (w)).length - i; omega)⟩
  · skip
    have h1b : decide ((i : Int) < (((membersF (wm W) R ro (w)).length : Nat) : Int)) = false := decide_eq_false h1
    refine .cond_f (b := decide ((i : Int) < (((membersF (wm W) R ro (w)).length : Nat) : Int))) rfl h1b ?_
    refine .exit ?_
    refine .seq ?_
    refine .drw (n := 69) [.agg (ST), vi .i64 (rep), vi .i64 (ofF (wm W) (rep)), .agg (ST), vi .i64 (rep), vi .i64 (ofF (wm W) (rep)), vb (true), vb (true), .agg (ST), .ptr 0 (16), .agg (((PC).drop 16).take 8), .ptr 0 (24), .agg (((PC).drop 24).take 8), vi .i64 (w), vi .i64 (masterF (wm W) R ro up (w)), .agg (ST), .ptr 0 (16), .agg (((PC).drop 16).take 8), .ptr 0 (24), .agg (((PC).drop 24).take 8), vi .i64 (w), vi .i64 (masterF (wm W) R ro up (w)), vb (true), vb (true), vb (true)] follows rfl (by kernel_rfl) (by kernel_rfl) ?_ ?_
    · skip
      refine .q rfl (q_load (q := .agg (ST)) rfl rfl (loads_whole (b := 1) (cs := ST) tyAgg33 tySz33 rfl hST.len)) ?_
      refine .q rfl (q_move (q := vi .i64 (rep)) rfl rfl) ?_
      refine .q rfl (q_call (ps := [.agg (ST), vi .i64 (rep)]) (r := vi .i64 (ofF (wm W) (rep))) rfl callable12 rfl ⟨hST.pure, trivial, trivial⟩ trivial (of_spec hST (rep))) ?_
      refine .q rfl (q_load (q := .agg (ST)) rfl rfl (loads_whole (b := 1) (cs := ST) tyAgg33 tySz33 rfl hST.len)) ?_
      refine .q rfl (q_move (q := vi .i64 (rep)) rfl rfl) ?_
      refine .q rfl (q_call (ps := [.agg (ST), vi .i64 (rep)]) (r := vi .i64 (ofF (wm W) (rep))) rfl callable13 rfl ⟨hST.pure, trivial, trivial⟩ trivial (of_ref hST (rep))) ?_
      refine .q rfl (q_bin (v := .bool true) rfl rfl rfl (by simp [binInt])) ?_
      refine .q rfl (q_move (q := vb (true)) rfl rfl) ?_
      refine .q rfl (q_load (q := .agg (ST)) rfl rfl (loads_whole (b := 1) (cs := ST) tyAgg33 tySz33 rfl hST.len)) ?_
      refine .q rfl (q_field (fo := 16) rfl fo25_2 rfl) ?_
      refine .q rfl (q_load (q := .agg (((PC).drop 16).take 8)) rfl rfl (loads_row (b := 0) (off := 16) (n := 8) (cs := PC) tyAgg23 tySz23 rfl rfl hL16)) ?_
      refine .q rfl (q_field (fo := 24) rfl fo25_3 rfl) ?_
      refine .q rfl (q_load (q := .agg (((PC).drop 24).take 8)) rfl rfl (loads_row (b := 0) (off := 24) (n := 8) (cs := PC) tyAgg23 tySz23 rfl rfl hL24)) ?_
      refine .q rfl (q_move (q := vi .i64 (w)) rfl rfl) ?_
      refine .q rfl (q_call (ps := [.agg (ST), .agg (((PC).drop 16).take 8), .agg (((PC).drop 24).take 8), vi .i64 (w)]) (r := vi .i64 (masterF (wm W) R ro up (w))) rfl callable14 rfl ⟨hST.pure, (hP.pure.part 16 8), (hP.pure.part 24 8), trivial, trivial⟩ trivial (master_spec hST hP.roB hP.upB (w))) ?_
      refine .q rfl (q_load (q := .agg (ST)) rfl rfl (loads_whole (b := 1) (cs := ST) tyAgg33 tySz33 rfl hST.len)) ?_
      refine .q rfl (q_field (fo := 16) rfl fo25_2 rfl) ?_
      refine .q rfl (q_load (q := .agg (((PC).drop 16).take 8)) rfl rfl (loads_row (b := 0) (off := 16) (n := 8) (cs := PC) tyAgg23 tySz23 rfl rfl hL16)) ?_
      refine .q rfl (q_field (fo := 24) rfl fo25_3 rfl) ?_
      refine .q rfl (q_load (q := .agg (((PC).drop 24).take 8)) rfl rfl (loads_row (b := 0) (off := 24) (n := 8) (cs := PC) tyAgg23 tySz23 rfl rfl hL24)) ?_
      refine .q rfl (q_move (q := vi .i64 (w)) rfl rfl) ?_
      refine .q rfl (q_call (ps := [.agg (ST), .agg (((PC).drop 16).take 8), .agg (((PC).drop 24).take 8), vi .i64 (w)]) (r := vi .i64 (masterF (wm W) R ro up (w))) rfl callable15 rfl ⟨hST.pure, (hP.pure.part 16 8), (hP.pure.part 24 8), trivial, trivial⟩ trivial (master_ref hST hP.roB hP.upB (w))) ?_
      refine .q rfl (q_bin (v := .bool true) rfl rfl rfl (by simp [binInt])) ?_
      refine .q rfl (q_pick_t (b := true) (q := vb (true)) rfl rfl rfl rfl) ?_
      refine .q rfl (q_assign (q := vb (true)) rfl rfl) ?_
      exact .nil
    refine .ret ?_
    exact ⟨_, res_one rfl (q := vb (true)) rfl, rfl⟩

theorem wardAsks_calls {PC : List PV} {W : Nat → Int} {R ro up : Nat → Bool} (hP : IsPl PC W R ro up) (rep time : Int) (k : Nat) : ACalls Try.prog 4 [.agg PC, vi .i64 rep, vi .u64 time] [] k (fun p _ _ => p = vb true) := by
  have hST := stEnd_is hP
  have hst := state_spec hP
  revert hST hst
  generalize stTo PC zSt W 8 = ST
  intro hST hst
  have hL0 : ((PC.drop 0).take 8).length = 8 := by simp [hP.len]
  have hL8 : ((PC.drop 8).take 8).length = 8 := by simp [hP.len]
  have hL16 : ((PC.drop 16).take 8).length = 8 := by simp [hP.len]
  have hL24 : ((PC.drop 24).take 8).length = 8 := by simp [hP.len]
  refine ACalls.of_body (n := 46) Try.func4 rfl rfl ?_
  refine .seq ?_
  refine .reg ?_
  refine .e rfl (step_box (p := .agg (PC)) rfl rfl rfl ?_)
  refine .q rfl (q_assign (q := vb (false)) rfl rfl) ?_
  refine .nil ?_
  refine .seq ?_
  refine .seq ?_
  refine .reg ?_
  refine .q rfl (q_call (ps := []) (r := vb (true)) rfl callable8 rfl trivial trivial lives_spec) ?_
  refine .q rfl (q_not (a := true) rfl rfl) ?_
  refine .nil ?_
  refine .cond (b := false) rfl ?_
  refine .skip ?_
  refine .seq ?_
  refine .reg ?_
  refine .q rfl (q_load (q := .agg (PC)) rfl rfl (loads_whole (b := 0) (cs := PC) tyAgg25 tySz25 rfl hP.len)) ?_
  refine .q rfl (q_call (ps := [.agg (PC)]) (r := .agg (ST)) rfl callable9 rfl ⟨hP.pure, trivial⟩ hST.pure hst) ?_
  refine .e rfl (step_alloc rfl zero33 zeroLeaf33 ?_)
  refine .e rfl (step_store' (q := ST) rfl rfl tySz33 rfl rfl rfl hST.len rfl (by decide) (splice_all rfl hST.len) ?_)
  refine .nil ?_
  refine .seq ?_
  refine .drw (n := 46) [.agg (ST), .ptr 0 (16), .agg (((PC).drop 16).take 8), .ptr 0 (24), .agg (((PC).drop 24).take 8), vi .i64 (rep), vi .i64 (nextF (wm W) R ro up (rep)), .agg (ST), .ptr 0 (16), .agg (((PC).drop 16).take 8), .ptr 0 (24), .agg (((PC).drop 24).take 8), vi .i64 (rep), vi .i64 (nextF (wm W) R ro up (rep)), vb (true), vb (true), .agg (ST), .ptr 0 (16), .agg (((PC).drop 16).take 8), .ptr 0 (24), .agg (((PC).drop 24).take 8), vi .i64 (rep), vi .u64 (time), vi .i64 (whomF (wm W) R ro up (rep) (time)), .agg (ST), .ptr 0 (16), .agg (((PC).drop 16).take 8), .ptr 0 (24), .agg (((PC).drop 24).take 8), vi .i64 (rep), vi .u64 (time), vi .i64 (whomF (wm W) R ro up (rep) (time)), vb (true), vb (true), vb (true)] follows rfl (by kernel_rfl) (by kernel_rfl) ?_ ?_
  · skip
    refine .q rfl (q_load (q := .agg (ST)) rfl rfl (loads_whole (b := 1) (cs := ST) tyAgg33 tySz33 rfl hST.len)) ?_
    refine .q rfl (q_field (fo := 16) rfl fo25_2 rfl) ?_
    refine .q rfl (q_load (q := .agg (((PC).drop 16).take 8)) rfl rfl (loads_row (b := 0) (off := 16) (n := 8) (cs := PC) tyAgg23 tySz23 rfl rfl hL16)) ?_
    refine .q rfl (q_field (fo := 24) rfl fo25_3 rfl) ?_
    refine .q rfl (q_load (q := .agg (((PC).drop 24).take 8)) rfl rfl (loads_row (b := 0) (off := 24) (n := 8) (cs := PC) tyAgg23 tySz23 rfl rfl hL24)) ?_
    refine .q rfl (q_move (q := vi .i64 (rep)) rfl rfl) ?_
    refine .q rfl (q_call (ps := [.agg (ST), .agg (((PC).drop 16).take 8), .agg (((PC).drop 24).take 8), vi .i64 (rep)]) (r := vi .i64 (nextF (wm W) R ro up (rep))) rfl callable16 rfl ⟨hST.pure, (hP.pure.part 16 8), (hP.pure.part 24 8), trivial, trivial⟩ trivial (next_spec hST hP.roB hP.upB (rep))) ?_
    refine .q rfl (q_load (q := .agg (ST)) rfl rfl (loads_whole (b := 1) (cs := ST) tyAgg33 tySz33 rfl hST.len)) ?_
    refine .q rfl (q_field (fo := 16) rfl fo25_2 rfl) ?_
    refine .q rfl (q_load (q := .agg (((PC).drop 16).take 8)) rfl rfl (loads_row (b := 0) (off := 16) (n := 8) (cs := PC) tyAgg23 tySz23 rfl rfl hL16)) ?_
    refine .q rfl (q_field (fo := 24) rfl fo25_3 rfl) ?_
    refine .q rfl (q_load (q := .agg (((PC).drop 24).take 8)) rfl rfl (loads_row (b := 0) (off := 24) (n := 8) (cs := PC) tyAgg23 tySz23 rfl rfl hL24)) ?_
    refine .q rfl (q_move (q := vi .i64 (rep)) rfl rfl) ?_
    refine .q rfl (q_call (ps := [.agg (ST), .agg (((PC).drop 16).take 8), .agg (((PC).drop 24).take 8), vi .i64 (rep)]) (r := vi .i64 (nextF (wm W) R ro up (rep))) rfl callable17 rfl ⟨hST.pure, (hP.pure.part 16 8), (hP.pure.part 24 8), trivial, trivial⟩ trivial (next_ref hST hP.roB hP.upB (rep))) ?_
    refine .q rfl (q_bin (v := .bool true) rfl rfl rfl (by simp [binInt])) ?_
    refine .q rfl (q_move (q := vb (true)) rfl rfl) ?_
    refine .q rfl (q_load (q := .agg (ST)) rfl rfl (loads_whole (b := 1) (cs := ST) tyAgg33 tySz33 rfl hST.len)) ?_
    refine .q rfl (q_field (fo := 16) rfl fo25_2 rfl) ?_
    refine .q rfl (q_load (q := .agg (((PC).drop 16).take 8)) rfl rfl (loads_row (b := 0) (off := 16) (n := 8) (cs := PC) tyAgg23 tySz23 rfl rfl hL16)) ?_
    refine .q rfl (q_field (fo := 24) rfl fo25_3 rfl) ?_
    refine .q rfl (q_load (q := .agg (((PC).drop 24).take 8)) rfl rfl (loads_row (b := 0) (off := 24) (n := 8) (cs := PC) tyAgg23 tySz23 rfl rfl hL24)) ?_
    refine .q rfl (q_move (q := vi .i64 (rep)) rfl rfl) ?_
    refine .q rfl (q_move (q := vi .u64 (time)) rfl rfl) ?_
    refine .q rfl (q_call (ps := [.agg (ST), .agg (((PC).drop 16).take 8), .agg (((PC).drop 24).take 8), vi .i64 (rep), vi .u64 (time)]) (r := vi .i64 (whomF (wm W) R ro up (rep) (time))) rfl callable18 rfl ⟨hST.pure, (hP.pure.part 16 8), (hP.pure.part 24 8), trivial, trivial, trivial⟩ trivial (whom_spec hST hP.roB hP.upB (wm_bd W) (rep) (time))) ?_
    refine .q rfl (q_load (q := .agg (ST)) rfl rfl (loads_whole (b := 1) (cs := ST) tyAgg33 tySz33 rfl hST.len)) ?_
    refine .q rfl (q_field (fo := 16) rfl fo25_2 rfl) ?_
    refine .q rfl (q_load (q := .agg (((PC).drop 16).take 8)) rfl rfl (loads_row (b := 0) (off := 16) (n := 8) (cs := PC) tyAgg23 tySz23 rfl rfl hL16)) ?_
    refine .q rfl (q_field (fo := 24) rfl fo25_3 rfl) ?_
    refine .q rfl (q_load (q := .agg (((PC).drop 24).take 8)) rfl rfl (loads_row (b := 0) (off := 24) (n := 8) (cs := PC) tyAgg23 tySz23 rfl rfl hL24)) ?_
    refine .q rfl (q_move (q := vi .i64 (rep)) rfl rfl) ?_
    refine .q rfl (q_move (q := vi .u64 (time)) rfl rfl) ?_
    refine .q rfl (q_call (ps := [.agg (ST), .agg (((PC).drop 16).take 8), .agg (((PC).drop 24).take 8), vi .i64 (rep), vi .u64 (time)]) (r := vi .i64 (whomF (wm W) R ro up (rep) (time))) rfl callable19 rfl ⟨hST.pure, (hP.pure.part 16 8), (hP.pure.part 24 8), trivial, trivial, trivial⟩ trivial (whom_ref hST hP.roB hP.upB (wm_bd W) (rep) (time))) ?_
    refine .q rfl (q_bin (v := .bool true) rfl rfl rfl (by simp [binInt])) ?_
    refine .q rfl (q_pick_t (b := true) (q := vb (true)) rfl rfl rfl rfl) ?_
    refine .q rfl (q_assign (q := vb (true)) rfl rfl) ?_
    exact .nil
  refine .ret ?_
  exact ⟨_, res_one rfl (q := vb (true)) rfl, rfl⟩

theorem wardFair_calls {PC : List PV} {W : Nat → Int} {R ro up : Nat → Bool} (hP : IsPl PC W R ro up) (rep time : Int) (k : Nat) : ACalls Try.prog 5 [.agg PC, vi .i64 rep, vi .u64 time] [] k (fun p _ _ => p = vb true) := by
  have hST := stEnd_is hP
  have hst := state_spec hP
  revert hST hst
  generalize stTo PC zSt W 8 = ST
  intro hST hst
  have hL0 : ((PC.drop 0).take 8).length = 8 := by simp [hP.len]
  have hL8 : ((PC.drop 8).take 8).length = 8 := by simp [hP.len]
  have hL16 : ((PC.drop 16).take 8).length = 8 := by simp [hP.len]
  have hL24 : ((PC.drop 24).take 8).length = 8 := by simp [hP.len]
  refine ACalls.of_body (n := 77) Try.func5 rfl rfl ?_
  refine .seq ?_
  refine .reg ?_
  refine .e rfl (step_box (p := .agg (PC)) rfl rfl rfl ?_)
  refine .q rfl (q_assign (q := vb (false)) rfl rfl) ?_
  refine .nil ?_
  refine .seq ?_
  refine .seq ?_
  refine .reg ?_
  refine .q rfl (q_call (ps := []) (r := vb (true)) rfl callable8 rfl trivial trivial lives_spec) ?_
  refine .q rfl (q_not (a := true) rfl rfl) ?_
  refine .nil ?_
  refine .cond (b := false) rfl ?_
  refine .skip ?_
  refine .seq ?_
  refine .reg ?_
  refine .q rfl (q_load (q := .agg (PC)) rfl rfl (loads_whole (b := 0) (cs := PC) tyAgg25 tySz25 rfl hP.len)) ?_
  refine .q rfl (q_call (ps := [.agg (PC)]) (r := .agg (ST)) rfl callable9 rfl ⟨hP.pure, trivial⟩ hST.pure hst) ?_
  refine .e rfl (step_alloc rfl zero33 zeroLeaf33 ?_)
  refine .e rfl (step_store' (q := ST) rfl rfl tySz33 rfl rfl rfl hST.len rfl (by decide) (splice_all rfl hST.len) ?_)
  refine .nil ?_
  refine .seq ?_
  refine .reg ?_
  refine .q rfl (q_load (q := .agg (ST)) rfl rfl (loads_whole (b := 1) (cs := ST) tyAgg33 tySz33 rfl hST.len)) ?_
  refine .q rfl (q_field (fo := 16) rfl fo25_2 rfl) ?_
  refine .q rfl (q_load (q := .agg (((PC).drop 16).take 8)) rfl rfl (loads_row (b := 0) (off := 16) (n := 8) (cs := PC) tyAgg23 tySz23 rfl rfl hL16)) ?_
  refine .q rfl (q_field (fo := 24) rfl fo25_3 rfl) ?_
  refine .q rfl (q_load (q := .agg (((PC).drop 24).take 8)) rfl rfl (loads_row (b := 0) (off := 24) (n := 8) (cs := PC) tyAgg23 tySz23 rfl rfl hL24)) ?_
  refine .q rfl (q_move (q := vi .i64 (rep)) rfl rfl) ?_
  refine .q rfl (q_move (q := vi .u64 (time)) rfl rfl) ?_
  refine .q rfl (q_call (ps := [.agg (ST), .agg (((PC).drop 16).take 8), .agg (((PC).drop 24).take 8), vi .i64 (rep), vi .u64 (time)]) (r := vi .i64 (whomF (wm W) R ro up (rep) (time))) rfl callable18 rfl ⟨hST.pure, (hP.pure.part 16 8), (hP.pure.part 24 8), trivial, trivial, trivial⟩ trivial (whom_spec hST hP.roB hP.upB (wm_bd W) (rep) (time))) ?_
  refine .q rfl (q_assign (q := vi .i64 (whomF (wm W) R ro up (rep) (time))) rfl rfl) ?_
  refine .nil ?_
  refine .seq ?_
  refine .seq ?_
  refine .reg ?_
  refine .q rfl (q_move (q := vi .i64 (whomF (wm W) R ro up (rep) (time))) rfl rfl) ?_
  refine .q rfl (q_bin (v := .bool ((whomF (wm W) R ro up (rep) (time) == 0))) rfl rfl rfl rfl) ?_
  refine .nil ?_
  by_cases h1 : whomF (wm W) R ro up (rep) (time) = 0
  · skip
    have h1b : (whomF (wm W) R ro up (rep) (time) == 0) = true := beq_iff_eq.2 h1
    refine .cond_t (b := (whomF (wm W) R ro up (rep) (time) == 0)) rfl h1b ?_
    refine .seq ?_
    refine .reg ?_
    refine .q rfl (q_assign (q := vb (true)) rfl rfl) ?_
    refine .nil ?_
    refine .ret ?_
    exact ⟨_, res_one rfl (q := vb (true)) rfl, rfl⟩
  · skip
    have h1b : (whomF (wm W) R ro up (rep) (time) == 0) = false := beq_eq_false_iff_ne.2 h1
    have hfr := whom_fair (W := W) (time := time) (up := up) h1
    refine .cond_f (b := (whomF (wm W) R ro up (rep) (time) == 0)) rfl h1b ?_
    refine .skip ?_
    refine .seq ?_
    refine .seq ?_
    refine .reg ?_
    refine .q rfl (q_move (q := vi .i64 (whomF (wm W) R ro up (rep) (time))) rfl rfl) ?_
    refine .q rfl (q_bin (v := .bool (decide (whomF (wm W) R ro up (rep) (time) < 1))) rfl rfl rfl rfl) ?_
    refine .q rfl (q_move (q := vb (decide (whomF (wm W) R ro up (rep) (time) < 1))) rfl rfl) ?_
    refine .q (guard_y rfl (decide_eq_false (by have := (whom_fair (W := W) (time := time) (up := up) h1).1; omega))) (q_move (q := vi .i64 (whomF (wm W) R ro up (rep) (time))) rfl rfl) ?_
    refine .q (guard_y rfl (decide_eq_false (by have := (whom_fair (W := W) (time := time) (up := up) h1).1; omega))) (q_bin (v := .bool (decide (whomF (wm W) R ro up (rep) (time) > 8))) rfl rfl rfl rfl) ?_
    refine .q rfl (q_pick_f (b := decide (whomF (wm W) R ro up (rep) (time) < 1)) (q := vb (decide (whomF (wm W) R ro up (rep) (time) > 8))) rfl rfl (decide_eq_false (by have := (whom_fair (W := W) (time := time) (up := up) h1).1; omega)) rfl) ?_
    refine .q rfl (q_move (q := vb (decide (whomF (wm W) R ro up (rep) (time) > 8))) rfl rfl) ?_
    refine .q (guard_y rfl (decide_eq_false (by have := (whom_fair (W := W) (time := time) (up := up) h1).2.1; omega))) (q_move (q := vi .i64 (rep)) rfl rfl) ?_
    refine .q (guard_y rfl (decide_eq_false (by have := (whom_fair (W := W) (time := time) (up := up) h1).2.1; omega))) (q_bin (v := .bool (decide (rep < 1))) rfl rfl rfl rfl) ?_
    refine .q rfl (q_pick_f (b := decide (whomF (wm W) R ro up (rep) (time) > 8)) (q := vb (decide (rep < 1))) rfl rfl (decide_eq_false (by have := (whom_fair (W := W) (time := time) (up := up) h1).2.1; omega)) rfl) ?_
    refine .q rfl (q_move (q := vb (decide (rep < 1))) rfl rfl) ?_
    refine .q (guard_y rfl (decide_eq_false (by have := (whom_fair (W := W) (time := time) (up := up) h1).2.2.1; omega))) (q_move (q := vi .i64 (rep)) rfl rfl) ?_
    refine .q (guard_y rfl (decide_eq_false (by have := (whom_fair (W := W) (time := time) (up := up) h1).2.2.1; omega))) (q_bin (v := .bool (decide (rep > 8))) rfl rfl rfl rfl) ?_
    refine .q rfl (q_pick_f (b := decide (rep < 1)) (q := vb (decide (rep > 8))) rfl rfl (decide_eq_false (by have := (whom_fair (W := W) (time := time) (up := up) h1).2.2.1; omega)) rfl) ?_
    refine .nil ?_
    refine .cond_f (b := decide (rep > 8)) rfl (decide_eq_false (by have := (whom_fair (W := W) (time := time) (up := up) h1).2.2.2.1; omega)) ?_
    refine .skip ?_
    refine .seq ?_
    refine .reg ?_
    refine .q rfl (q_move (q := vi .i64 (whomF (wm W) R ro up (rep) (time))) rfl rfl) ?_
    refine .q rfl (q_move (q := vi .i64 (rep)) rfl rfl) ?_
    refine .q rfl (q_bin (v := .bool ((whomF (wm W) R ro up (rep) (time) != rep))) rfl rfl rfl rfl) ?_
    refine .q rfl (q_move (q := vb ((whomF (wm W) R ro up (rep) (time) != rep))) rfl rfl) ?_
    refine .q (guard_y rfl (bne_iff_ne.2 (whom_fair (W := W) (time := time) (up := up) h1).2.2.2.2.1)) (q_move (q := vi .i64 (whomF (wm W) R ro up (rep) (time))) rfl rfl) ?_
    refine .q (guard_y rfl (bne_iff_ne.2 (whom_fair (W := W) (time := time) (up := up) h1).2.2.2.2.1)) (q_bin (v := .int .i64 ((whomF (wm W) R ro up (rep) (time)) - 1)) rfl rfl rfl (sub64 (by omega))) ?_
    refine .q (guard_y rfl (bne_iff_ne.2 (whom_fair (W := W) (time := time) (up := up) h1).2.2.2.2.1)) (q_field (fo := 24) rfl fo25_3 rfl) ?_
    refine .q (guard_y rfl (bne_iff_ne.2 (whom_fair (W := W) (time := time) (up := up) h1).2.2.2.2.1)) (q_iptr (off' := 24 + ((whomF (wm W) R ro up (rep) (time)) - 1).toNat) rfl tyUn23 tySz4 rfl rfl (by omega) (by omega) (by omega)) ?_
    refine .q (guard_y rfl (bne_iff_ne.2 (whom_fair (W := W) (time := time) (up := up) h1).2.2.2.2.1)) (q_load (q := vb (up ((whomF (wm W) R ro up (rep) (time)) - 1).toNat)) rfl rfl (loads_cell (b := 0) (off := 24 + ((whomF (wm W) R ro up (rep) (time)) - 1).toNat) (cs := PC) tyAgg4 rfl (hP.up ((whomF (wm W) R ro up (rep) (time)) - 1).toNat (by omega)))) ?_
    refine .q rfl (q_pick_t (b := (whomF (wm W) R ro up (rep) (time) != rep)) (q := vb (up ((whomF (wm W) R ro up (rep) (time)) - 1).toNat)) rfl rfl (bne_iff_ne.2 (whom_fair (W := W) (time := time) (up := up) h1).2.2.2.2.1) rfl) ?_
    refine .q rfl (q_move (q := vb (up ((whomF (wm W) R ro up (rep) (time)) - 1).toNat)) rfl rfl) ?_
    refine .q (guard_y rfl (whom_fair (W := W) (time := time) (up := up) h1).2.2.2.2.2.1) (q_move (q := vi .i64 (whomF (wm W) R ro up (rep) (time))) rfl rfl) ?_
    refine .q (guard_y rfl (whom_fair (W := W) (time := time) (up := up) h1).2.2.2.2.2.1) (q_bin (v := .int .i64 ((whomF (wm W) R ro up (rep) (time)) - 1)) rfl rfl rfl (sub64 (by omega))) ?_
    refine .q (guard_y rfl (whom_fair (W := W) (time := time) (up := up) h1).2.2.2.2.2.1) (q_field (fo := 8) rfl fo25_1 rfl) ?_
    refine .q (guard_y rfl (whom_fair (W := W) (time := time) (up := up) h1).2.2.2.2.2.1) (q_iptr (off' := 8 + ((whomF (wm W) R ro up (rep) (time)) - 1).toNat) rfl tyUn23 tySz4 rfl rfl (by omega) (by omega) (by omega)) ?_
    refine .q (guard_y rfl (whom_fair (W := W) (time := time) (up := up) h1).2.2.2.2.2.1) (q_load (q := vb (R ((whomF (wm W) R ro up (rep) (time)) - 1).toNat)) rfl rfl (loads_cell (b := 0) (off := 8 + ((whomF (wm W) R ro up (rep) (time)) - 1).toNat) (cs := PC) tyAgg4 rfl (hP.r ((whomF (wm W) R ro up (rep) (time)) - 1).toNat (by omega)))) ?_
    refine .q (guard_y rfl (whom_fair (W := W) (time := time) (up := up) h1).2.2.2.2.2.1) (q_not (a := R ((whomF (wm W) R ro up (rep) (time)) - 1).toNat) rfl rfl) ?_
    refine .q rfl (q_pick_t (b := up ((whomF (wm W) R ro up (rep) (time)) - 1).toNat) (q := vb (!(R ((whomF (wm W) R ro up (rep) (time)) - 1).toNat))) rfl rfl (whom_fair (W := W) (time := time) (up := up) h1).2.2.2.2.2.1 rfl) ?_
    refine .q rfl (q_move (q := vb (!(R ((whomF (wm W) R ro up (rep) (time)) - 1).toNat))) rfl rfl) ?_
    refine .q (guard_y rfl (not_f (whom_fair (W := W) (time := time) (up := up) h1).2.2.2.2.2.2.1)) (q_move (q := vi .i64 (whomF (wm W) R ro up (rep) (time))) rfl rfl) ?_
    refine .q (guard_y rfl (not_f (whom_fair (W := W) (time := time) (up := up) h1).2.2.2.2.2.2.1)) (q_bin (v := .int .i64 ((whomF (wm W) R ro up (rep) (time)) - 1)) rfl rfl rfl (sub64 (by omega))) ?_
    refine .q (guard_y rfl (not_f (whom_fair (W := W) (time := time) (up := up) h1).2.2.2.2.2.2.1)) (q_field (fo := 16) rfl fo25_2 rfl) ?_
    refine .q (guard_y rfl (not_f (whom_fair (W := W) (time := time) (up := up) h1).2.2.2.2.2.2.1)) (q_iptr (off' := 16 + ((whomF (wm W) R ro up (rep) (time)) - 1).toNat) rfl tyUn23 tySz4 rfl rfl (by omega) (by omega) (by omega)) ?_
    refine .q (guard_y rfl (not_f (whom_fair (W := W) (time := time) (up := up) h1).2.2.2.2.2.2.1)) (q_load (q := vb (ro ((whomF (wm W) R ro up (rep) (time)) - 1).toNat)) rfl rfl (loads_cell (b := 0) (off := 16 + ((whomF (wm W) R ro up (rep) (time)) - 1).toNat) (cs := PC) tyAgg4 rfl (hP.ro ((whomF (wm W) R ro up (rep) (time)) - 1).toNat (by omega)))) ?_
    refine .q rfl (q_pick_t (b := !(R ((whomF (wm W) R ro up (rep) (time)) - 1).toNat)) (q := vb (ro ((whomF (wm W) R ro up (rep) (time)) - 1).toNat)) rfl rfl (not_f (whom_fair (W := W) (time := time) (up := up) h1).2.2.2.2.2.2.1) rfl) ?_
    refine .q rfl (q_move (q := vb (ro ((whomF (wm W) R ro up (rep) (time)) - 1).toNat)) rfl rfl) ?_
    refine .q (guard_y rfl (whom_fair (W := W) (time := time) (up := up) h1).2.2.2.2.2.2.2.1) (q_move (q := vi .i64 (rep)) rfl rfl) ?_
    refine .q (guard_y rfl (whom_fair (W := W) (time := time) (up := up) h1).2.2.2.2.2.2.2.1) (q_bin (v := .int .i64 (rep - 1)) rfl rfl rfl (sub64 (by omega))) ?_
    refine .q (guard_y rfl (whom_fair (W := W) (time := time) (up := up) h1).2.2.2.2.2.2.2.1) (q_field (fo := 16) rfl fo25_2 rfl) ?_
    refine .q (guard_y rfl (whom_fair (W := W) (time := time) (up := up) h1).2.2.2.2.2.2.2.1) (q_iptr (off' := 16 + ((rep - 1)).toNat) rfl tyUn23 tySz4 rfl rfl (by omega) (by omega) (by omega)) ?_
    refine .q (guard_y rfl (whom_fair (W := W) (time := time) (up := up) h1).2.2.2.2.2.2.2.1) (q_load (q := vb (ro ((rep - 1)).toNat)) rfl rfl (loads_cell (b := 0) (off := 16 + ((rep - 1)).toNat) (cs := PC) tyAgg4 rfl (hP.ro ((rep - 1)).toNat (by omega)))) ?_
    refine .q rfl (q_pick_t (b := ro ((whomF (wm W) R ro up (rep) (time)) - 1).toNat) (q := vb (ro ((rep - 1)).toNat)) rfl rfl (whom_fair (W := W) (time := time) (up := up) h1).2.2.2.2.2.2.2.1 rfl) ?_
    refine .q rfl (q_move (q := vb (ro ((rep - 1)).toNat)) rfl rfl) ?_
    refine .q (guard_y rfl (whom_fair (W := W) (time := time) (up := up) h1).2.2.2.2.2.2.2.2.1) (q_move (q := vi .i64 (rep)) rfl rfl) ?_
    refine .q (guard_y rfl (whom_fair (W := W) (time := time) (up := up) h1).2.2.2.2.2.2.2.2.1) (q_bin (v := .int .i64 (rep - 1)) rfl rfl rfl (sub64 (by omega))) ?_
    refine .q (guard_y rfl (whom_fair (W := W) (time := time) (up := up) h1).2.2.2.2.2.2.2.2.1) (q_field (fo := 8) rfl fo25_1 rfl) ?_
    refine .q (guard_y rfl (whom_fair (W := W) (time := time) (up := up) h1).2.2.2.2.2.2.2.2.1) (q_iptr (off' := 8 + ((rep - 1)).toNat) rfl tyUn23 tySz4 rfl rfl (by omega) (by omega) (by omega)) ?_
    refine .q (guard_y rfl (whom_fair (W := W) (time := time) (up := up) h1).2.2.2.2.2.2.2.2.1) (q_load (q := vb (R ((rep - 1)).toNat)) rfl rfl (loads_cell (b := 0) (off := 8 + ((rep - 1)).toNat) (cs := PC) tyAgg4 rfl (hP.r ((rep - 1)).toNat (by omega)))) ?_
    refine .q (guard_y rfl (whom_fair (W := W) (time := time) (up := up) h1).2.2.2.2.2.2.2.2.1) (q_not (a := R ((rep - 1)).toNat) rfl rfl) ?_
    refine .q rfl (q_pick_t (b := ro ((rep - 1)).toNat) (q := vb (!(R ((rep - 1)).toNat))) rfl rfl (whom_fair (W := W) (time := time) (up := up) h1).2.2.2.2.2.2.2.2.1 rfl) ?_
    refine .q rfl (q_assign (q := vb (!(R ((rep - 1)).toNat))) rfl rfl) ?_
    refine .nil ?_
    refine .ret ?_
    exact ⟨_, res_one rfl (q := vb (!(R ((rep - 1)).toNat))) rfl, (congrArg vb (not_f (whom_fair (W := W) (time := time) (up := up) h1).2.2.2.2.2.2.2.2.2))⟩

theorem wardRing_calls {PC : List PV} {W : Nat → Int} {R ro up : Nat → Bool} (hP : IsPl PC W R ro up) (rep : Int) (k : Nat) : ACalls Try.prog 7 [.agg PC, vi .i64 rep] [] k (fun p _ _ => p = vb true) := by
  have hST := stEnd_is hP
  have hst := state_spec hP
  revert hST hst
  generalize stTo PC zSt W 8 = ST
  intro hST hst
  have hL0 : ((PC.drop 0).take 8).length = 8 := by simp [hP.len]
  have hL8 : ((PC.drop 8).take 8).length = 8 := by simp [hP.len]
  have hL16 : ((PC.drop 16).take 8).length = 8 := by simp [hP.len]
  have hL24 : ((PC.drop 24).take 8).length = 8 := by simp [hP.len]
  refine ACalls.of_body (n := 120) Try.func7 rfl rfl ?_
  refine .seq ?_
  refine .reg ?_
  refine .e rfl (step_box (p := .agg (PC)) rfl rfl rfl ?_)
  refine .q rfl (q_assign (q := vb (false)) rfl rfl) ?_
  refine .nil ?_
  refine .seq ?_
  refine .seq ?_
  refine .reg ?_
  refine .q rfl (q_call (ps := []) (r := vb (true)) rfl callable8 rfl trivial trivial lives_spec) ?_
  refine .q rfl (q_not (a := true) rfl rfl) ?_
  refine .nil ?_
  refine .cond (b := false) rfl ?_
  refine .skip ?_
  refine .seq ?_
  refine .reg ?_
  refine .q rfl (q_load (q := .agg (PC)) rfl rfl (loads_whole (b := 0) (cs := PC) tyAgg25 tySz25 rfl hP.len)) ?_
  refine .q rfl (q_call (ps := [.agg (PC)]) (r := .agg (ST)) rfl callable9 rfl ⟨hP.pure, trivial⟩ hST.pure hst) ?_
  refine .e rfl (step_alloc rfl zero33 zeroLeaf33 ?_)
  refine .e rfl (step_store' (q := ST) rfl rfl tySz33 rfl rfl rfl hST.len rfl (by decide) (splice_all rfl hST.len) ?_)
  refine .nil ?_
  refine .seq ?_
  refine .seq ?_
  refine .reg ?_
  refine .q rfl (q_move (q := vi .i64 (rep)) rfl rfl) ?_
  refine .q rfl (q_bin (v := .bool (decide (rep < 1))) rfl rfl rfl rfl) ?_
  refine .q rfl (q_move (q := vb (decide (rep < 1))) rfl rfl) ?_
  by_cases h1 : rep < 1
  · skip
    have h1b : decide (rep < 1) = true := decide_eq_true h1
    refine .no (guard_n rfl h1b) ?_
    refine .no (guard_n rfl h1b) ?_
    refine .q rfl (q_pick_t (b := decide (rep < 1)) (q := vb (true)) rfl rfl h1b rfl) ?_
    refine .q rfl (q_move (q := vb (true)) rfl rfl) ?_
    refine .no rfl ?_
    refine .no rfl ?_
    refine .no rfl ?_
    refine .no rfl ?_
    refine .no rfl ?_
    refine .no rfl ?_
    refine .q rfl (q_pick_t (b := true) (q := vb (true)) rfl rfl rfl rfl) ?_
    refine .q rfl (q_move (q := vb (true)) rfl rfl) ?_
    refine .no rfl ?_
    refine .no rfl ?_
    refine .no rfl ?_
    refine .no rfl ?_
    refine .no rfl ?_
    refine .q rfl (q_pick_t (b := true) (q := vb (true)) rfl rfl rfl rfl) ?_
    refine .q rfl (q_move (q := vb (true)) rfl rfl) ?_
    refine .no rfl ?_
    refine .no rfl ?_
    refine .no rfl ?_
    refine .no rfl ?_
    refine .no rfl ?_
    refine .no rfl ?_
    refine .q rfl (q_pick_t (b := true) (q := vb (true)) rfl rfl rfl rfl) ?_
    refine .nil ?_
    refine .cond (b := true) rfl ?_
    refine .seq ?_
    refine .reg ?_
    refine .q rfl (q_assign (q := vb (true)) rfl rfl) ?_
    refine .nil ?_
    refine .ret ?_
    exact ⟨_, res_one rfl (q := vb (true)) rfl, rfl⟩
  · skip
    have h1b : decide (rep < 1) = false := decide_eq_false h1
    refine .q (guard_y rfl h1b) (q_move (q := vi .i64 (rep)) rfl rfl) ?_
    refine .q (guard_y rfl h1b) (q_bin (v := .bool (decide (rep > 8))) rfl rfl rfl rfl) ?_
    refine .q rfl (q_pick_f (b := decide (rep < 1)) (q := vb (decide (rep > 8))) rfl rfl h1b rfl) ?_
    refine .q rfl (q_move (q := vb (decide (rep > 8))) rfl rfl) ?_
    by_cases h2 : rep > 8
    · skip
      have h2b : decide (rep > 8) = true := decide_eq_true h2
      refine .no (guard_n rfl h2b) ?_
      refine .no (guard_n rfl h2b) ?_
      refine .no (guard_n rfl h2b) ?_
      refine .no (guard_n rfl h2b) ?_
      refine .no (guard_n rfl h2b) ?_
      refine .no (guard_n rfl h2b) ?_
      refine .q rfl (q_pick_t (b := decide (rep > 8)) (q := vb (true)) rfl rfl h2b rfl) ?_
      refine .q rfl (q_move (q := vb (true)) rfl rfl) ?_
      refine .no rfl ?_
      refine .no rfl ?_
      refine .no rfl ?_
      refine .no rfl ?_
      refine .no rfl ?_
      refine .q rfl (q_pick_t (b := true) (q := vb (true)) rfl rfl rfl rfl) ?_
      refine .q rfl (q_move (q := vb (true)) rfl rfl) ?_
      refine .no rfl ?_
      refine .no rfl ?_
      refine .no rfl ?_
      refine .no rfl ?_
      refine .no rfl ?_
      refine .no rfl ?_
      refine .q rfl (q_pick_t (b := true) (q := vb (true)) rfl rfl rfl rfl) ?_
      refine .nil ?_
      refine .cond (b := true) rfl ?_
      refine .seq ?_
      refine .reg ?_
      refine .q rfl (q_assign (q := vb (true)) rfl rfl) ?_
      refine .nil ?_
      refine .ret ?_
      exact ⟨_, res_one rfl (q := vb (true)) rfl, rfl⟩
    · skip
      have h2b : decide (rep > 8) = false := decide_eq_false h2
      refine .q (guard_y rfl h2b) (q_move (q := vi .i64 (rep)) rfl rfl) ?_
      refine .q (guard_y rfl h2b) (q_bin (v := .int .i64 (rep - 1)) rfl rfl rfl (sub64 (by omega))) ?_
      refine .q (guard_y rfl h2b) (q_field (fo := 16) rfl fo25_2 rfl) ?_
      refine .q (guard_y rfl h2b) (q_iptr (off' := 16 + ((rep - 1)).toNat) rfl tyUn23 tySz4 rfl rfl (by omega) (by omega) (by omega)) ?_
      refine .q (guard_y rfl h2b) (q_load (q := vb (ro ((rep - 1)).toNat)) rfl rfl (loads_cell (b := 0) (off := 16 + ((rep - 1)).toNat) (cs := PC) tyAgg4 rfl (hP.ro ((rep - 1)).toNat (by omega)))) ?_
      refine .q (guard_y rfl h2b) (q_not (a := ro ((rep - 1)).toNat) rfl rfl) ?_
      refine .q rfl (q_pick_f (b := decide (rep > 8)) (q := vb (!(ro ((rep - 1)).toNat))) rfl rfl h2b rfl) ?_
      refine .q rfl (q_move (q := vb (!(ro ((rep - 1)).toNat))) rfl rfl) ?_
      rcases Bool.eq_false_or_eq_true (ro ((rep - 1)).toNat) with h3 | h3
      · skip
        refine .q (guard_y rfl (not_t h3)) (q_move (q := vi .i64 (rep)) rfl rfl) ?_
        refine .q (guard_y rfl (not_t h3)) (q_bin (v := .int .i64 (rep - 1)) rfl rfl rfl (sub64 (by omega))) ?_
        refine .q (guard_y rfl (not_t h3)) (q_field (fo := 8) rfl fo25_1 rfl) ?_
        refine .q (guard_y rfl (not_t h3)) (q_iptr (off' := 8 + ((rep - 1)).toNat) rfl tyUn23 tySz4 rfl rfl (by omega) (by omega) (by omega)) ?_
        refine .q (guard_y rfl (not_t h3)) (q_load (q := vb (R ((rep - 1)).toNat)) rfl rfl (loads_cell (b := 0) (off := 8 + ((rep - 1)).toNat) (cs := PC) tyAgg4 rfl (hP.r ((rep - 1)).toNat (by omega)))) ?_
        refine .q rfl (q_pick_f (b := !(ro ((rep - 1)).toNat)) (q := vb (R ((rep - 1)).toNat)) rfl rfl (not_t h3) rfl) ?_
        refine .q rfl (q_move (q := vb (R ((rep - 1)).toNat)) rfl rfl) ?_
        rcases Bool.eq_false_or_eq_true (R ((rep - 1)).toNat) with h4 | h4
        · skip
          refine .no (guard_n rfl h4) ?_
          refine .no (guard_n rfl h4) ?_
          refine .no (guard_n rfl h4) ?_
          refine .no (guard_n rfl h4) ?_
          refine .no (guard_n rfl h4) ?_
          refine .no (guard_n rfl h4) ?_
          refine .q rfl (q_pick_t (b := R ((rep - 1)).toNat) (q := vb (true)) rfl rfl h4 rfl) ?_
          refine .nil ?_
          refine .cond (b := true) rfl ?_
          refine .seq ?_
          refine .reg ?_
          refine .q rfl (q_assign (q := vb (true)) rfl rfl) ?_
          refine .nil ?_
          refine .ret ?_
          exact ⟨_, res_one rfl (q := vb (true)) rfl, rfl⟩
        · skip
          refine .q (guard_y rfl h4) (q_move (q := vi .i64 (rep)) rfl rfl) ?_
          refine .q (guard_y rfl h4) (q_bin (v := .int .i64 (rep - 1)) rfl rfl rfl (sub64 (by omega))) ?_
          refine .q (guard_y rfl h4) (q_field (fo := 24) rfl fo25_3 rfl) ?_
          refine .q (guard_y rfl h4) (q_iptr (off' := 24 + ((rep - 1)).toNat) rfl tyUn23 tySz4 rfl rfl (by omega) (by omega) (by omega)) ?_
          refine .q (guard_y rfl h4) (q_load (q := vb (up ((rep - 1)).toNat)) rfl rfl (loads_cell (b := 0) (off := 24 + ((rep - 1)).toNat) (cs := PC) tyAgg4 rfl (hP.up ((rep - 1)).toNat (by omega)))) ?_
          refine .q (guard_y rfl h4) (q_not (a := up ((rep - 1)).toNat) rfl rfl) ?_
          refine .q rfl (q_pick_f (b := R ((rep - 1)).toNat) (q := vb (!(up ((rep - 1)).toNat))) rfl rfl h4 rfl) ?_
          refine .nil ?_
          rcases Bool.eq_false_or_eq_true (up ((rep - 1)).toNat) with h5 | h5
          · skip
            refine .cond_f (b := !(up ((rep - 1)).toNat)) rfl (not_t h5) ?_
            refine .skip ?_
            refine .seq ?_
            refine .reg ?_
            refine .q rfl (q_assign (q := vi .i64 (0)) rfl rfl) ?_
            refine .nil ?_
            refine .seq ?_
            refine .seq ?_
            refine .drw (n := 120) [.agg (ST), .ptr 0 (16), .agg (((PC).drop 16).take 8), .agg (ST), vi .i64 (rep), vi .i64 (ofF (wm W) (rep)), .tr ((membersF (wm W) R ro (ofF (wm W) (rep))).length) ((membersF (wm W) R ro (ofF (wm W) (rep))).map (vi .i64)) .no, vi .i64 ((((membersF (wm W) R ro (ofF (wm W) (rep))).length : Nat) : Int)), vi .i64 (0)] follows rfl (by kernel_rfl) (by kernel_rfl) ?_ ?_
            · skip
              refine .q rfl (q_load (q := .agg (ST)) rfl rfl (loads_whole (b := 1) (cs := ST) tyAgg33 tySz33 rfl hST.len)) ?_
              refine .q rfl (q_field (fo := 16) rfl fo25_2 rfl) ?_
              refine .q rfl (q_load (q := .agg (((PC).drop 16).take 8)) rfl rfl (loads_row (b := 0) (off := 16) (n := 8) (cs := PC) tyAgg23 tySz23 rfl rfl hL16)) ?_
              refine .q rfl (q_load (q := .agg (ST)) rfl rfl (loads_whole (b := 1) (cs := ST) tyAgg33 tySz33 rfl hST.len)) ?_
              refine .q rfl (q_move (q := vi .i64 (rep)) rfl rfl) ?_
              refine .q rfl (q_call (ps := [.agg (ST), vi .i64 (rep)]) (r := vi .i64 (ofF (wm W) (rep))) rfl callable12 rfl ⟨hST.pure, trivial, trivial⟩ trivial (of_spec hST (rep))) ?_
              refine .q rfl (q_call (ps := [.agg (ST), .agg (((PC).drop 16).take 8), vi .i64 (ofF (wm W) (rep))]) (r := .tr ((membersF (wm W) R ro (ofF (wm W) (rep))).length) ((membersF (wm W) R ro (ofF (wm W) (rep))).map (vi .i64)) .no) rfl callable10 rfl ⟨hST.pure, (hP.pure.part 16 8), trivial, trivial⟩ ⟨rfl, (Pures_iff.2 (fun p hp => by simp at hp; obtain ⟨x, _, rfl⟩ := hp; trivial))⟩ (members_spec hST hP.roB (ofF (wm W) (rep)))) ?_
              refine .q rfl (q_len_tr rfl tyUn35 rfl) ?_
              refine .q rfl (q_move (q := vi .i64 (0)) rfl rfl) ?_
              exact .nil
            refine .block ?_
            obtain ⟨n, at_, sn, hcnt, hR⟩ := ringW (W := wm W) (R := R) (ro := ro) (up := up) (rep := rep) (by omega) (by omega) h3 h4 h5
            have hl : ∀ m, m ∈ membersF (wm W) R ro (ofF (wm W) (rep)) → 1 ≤ m ∧ m ≤ 8 := fun m h => members_lo h
            have hlen := ring_len (wm W) R ro (ofF (wm W) (rep))
            refine .loopK (S := Nat × Int) [1, 2, 4, 5, 6, 52, 53, 54] (fun ⟨i, c⟩ => ⟨120, [(1, vi .i64 (rep)), (2, .ptr 0 (0)), (4, vb (false)), (5, .ptr 1 (0)), (6, vi .i64 (c)), (52, .tr ((membersF (wm W) R ro (ofF (wm W) (rep))).length) ((membersF (wm W) R ro (ofF (wm W) (rep))).map (vi .i64)) .no), (53, vi .i64 ((((membersF (wm W) R ro (ofF (wm W) (rep))).length : Nat) : Int))), (54, vi .i64 ((i : Int)))], [.row (PC) 25, .row (ST) 33], List.replicate k false⟩) (fun ⟨i, c⟩ => i ≤ (membersF (wm W) R ro (ofF (wm W) (rep))).length ∧ c = cntF (membersF (wm W) R ro (ofF (wm W) (rep))) up i) (fun ⟨i, c⟩ => (membersF (wm W) R ro (ofF (wm W) (rep))).length - i) ⟨0, 0⟩ ⟨Nat.zero_le _, rfl⟩ rfl ?_
            rintro ⟨i, c⟩ ⟨hi, hc⟩
            have hcb := cntF_bd (membersF (wm W) R ro (ofF (wm W) (rep))) up i
            refine .seq ?_
            refine .reg ?_
            refine .q rfl (q_bin (v := .bool (decide ((i : Int) < (((membersF (wm W) R ro (ofF (wm W) (rep))).length : Nat) : Int)))) rfl rfl rfl rfl) ?_
            refine .nil ?_
            refine .seq ?_
            by_cases h6 : (i : Int) < (((membersF (wm W) R ro (ofF (wm W) (rep))).length : Nat) : Int)
            · skip
              have h6b : decide ((i : Int) < (((membersF (wm W) R ro (ofF (wm W) (rep))).length : Nat) : Int)) = true := decide_eq_true h6
              refine .cond_t (b := decide ((i : Int) < (((membersF (wm W) R ro (ofF (wm W) (rep))).length : Nat) : Int))) rfl h6b ?_
              refine .skip ?_
              refine .seq ?_
              refine .block ?_
              refine .seq ?_
              refine .reg ?_
              refine .q rfl (q_index_tr (i := (i : Int)) rfl tyUn35 tySz3 rfl rfl (by omega) (by omega)) ?_
              refine .q rfl (q_load (q := vi .i64 ((membersF (wm W) R ro (ofF (wm W) (rep))).getD i 0)) rfl rfl (loads_fzcell tyAgg3 (cell_mapN (by omega)))) ?_
              have hm7 := atIn hl (i := i) (by omega)
              refine .q rfl (q_assign (q := vi .i64 ((membersF (wm W) R ro (ofF (wm W) (rep))).getD i 0)) rfl rfl) ?_
              refine .nil ?_
              refine .seq ?_
              refine .reg ?_
              refine .q rfl (q_move (q := vi .i64 ((membersF (wm W) R ro (ofF (wm W) (rep))).getD i 0)) rfl rfl) ?_
              refine .q rfl (q_bin (v := .int .i64 (((membersF (wm W) R ro (ofF (wm W) (rep))).getD i 0) - 1)) rfl rfl rfl (sub64 (by omega))) ?_
              refine .q rfl (q_field (fo := 24) rfl fo25_3 rfl) ?_
              refine .q rfl (q_iptr (off' := 24 + (((membersF (wm W) R ro (ofF (wm W) (rep))).getD i 0) - 1).toNat) rfl tyUn23 tySz4 rfl rfl (by omega) (by omega) (by omega)) ?_
              refine .q rfl (q_load (q := vb (up (((membersF (wm W) R ro (ofF (wm W) (rep))).getD i 0) - 1).toNat)) rfl rfl (loads_cell (b := 0) (off := 24 + (((membersF (wm W) R ro (ofF (wm W) (rep))).getD i 0) - 1).toNat) (cs := PC) tyAgg4 rfl (hP.up (((membersF (wm W) R ro (ofF (wm W) (rep))).getD i 0) - 1).toNat (by omega)))) ?_
              refine .nil ?_
              rcases Bool.eq_false_or_eq_true (up (((membersF (wm W) R ro (ofF (wm W) (rep))).getD i 0) - 1).toNat) with h8 | h8
              · skip
                refine .cond_t (b := up (((membersF (wm W) R ro (ofF (wm W) (rep))).getD i 0) - 1).toNat) rfl h8 ?_
                refine .reg ?_
                refine .q rfl (q_move (q := vi .i64 (c)) rfl rfl) ?_
                refine .q rfl (q_bin (v := .int .i64 (c + 1)) rfl rfl rfl (add64 (by omega))) ?_
                refine .q rfl (q_assign (q := vi .i64 (c + 1)) rfl rfl) ?_
                refine .nil ?_
                refine .reg ?_
                refine .q rfl (q_bin (v := .int .i64 (((i : Int)) + 1)) rfl rfl rfl (add64 (by omega))) ?_
                refine .q rfl (q_move (q := vi .i64 ((((i : Int)) + 1))) rfl rfl) ?_
                refine .nil ?_
                exact ⟨⟨i + 1, c + 1⟩, ⟨by omega, by rw [cntF_succ (by omega), hc]; rw [if_pos h8]⟩, rfl, (by show (membersF (wm W) R ro (ofF (wm W) (rep))).length - (i + 1) < (membersF (wm W) R ro (ofF (wm W) (rep))).length - i; omega)⟩
              · skip
                refine .cond_f (b := up (((membersF (wm W) R ro (ofF (wm W) (rep))).getD i 0) - 1).toNat) rfl h8 ?_
                refine .skip ?_
                refine .reg ?_
                refine .q rfl (q_bin (v := .int .i64 (((i : Int)) + 1)) rfl rfl rfl (add64 (by omega))) ?_
                refine .q rfl (q_move (q := vi .i64 ((((i : Int)) + 1))) rfl rfl) ?_
                refine .nil ?_
                exact ⟨⟨i + 1, c⟩, ⟨by omega, by rw [cntF_succ (by omega), hc]; rw [if_neg (by rw [h8]; simp)]⟩, rfl, (by show (membersF (wm W) R ro (ofF (wm W) (rep))).length - (i + 1) < (membersF (wm W) R ro (ofF (wm W) (rep))).length - i; omega)⟩
            · skip
              have h6b : decide ((i : Int) < (((membersF (wm W) R ro (ofF (wm W) (rep))).length : Nat) : Int)) = false := decide_eq_false h6
              refine .cond_f (b := decide ((i : Int) < (((membersF (wm W) R ro (ofF (wm W) (rep))).length : Nat) : Int))) rfl h6b ?_
              refine .exit ?_
              refine .seq ?_
              refine .reg ?_
              refine .q rfl (q_move (q := vi .i64 (rep)) rfl rfl) ?_
              refine .q rfl (q_assign (q := vi .i64 (rep)) rfl rfl) ?_
              refine .nil ?_
              refine .seq ?_
              refine .reg ?_
              refine .e rfl (step_alloc rfl zero23 zeroLeaf23 ?_)
              refine .nil ?_
              refine .seq ?_
              refine .seq ?_
              refine .reg ?_
              refine .q rfl (q_move (q := vi .i64 (c)) rfl rfl) ?_
              refine .q rfl (q_move (q := vi .i64 (0)) rfl rfl) ?_
              refine .nil ?_
              refine .block ?_
              have hcn : c = (n : Int) := by rw [hc, show i = (membersF (wm W) R ro (ofF (wm W) (rep))).length from by omega]; exact hcnt
              refine .loopK (S := Nat × Int × List PV) [1, 2, 4, 5, 6, 9, 10, 67, 68] (fun ⟨j, a, sc⟩ => ⟨120, [(1, vi .i64 (rep)), (2, .ptr 0 (0)), (4, vb (false)), (5, .ptr 1 (0)), (6, vi .i64 (c)), (9, vi .i64 (a)), (10, .ptr 2 (0)), (67, vi .i64 (c)), (68, vi .i64 ((j : Int)))], [.row (PC) 25, .row (ST) 33, .row (sc) 23], List.replicate k false⟩) (fun ⟨j, a, sc⟩ => j ≤ n ∧ a = at_ j ∧ sc = seenC sn j) (fun ⟨j, a, sc⟩ => n - j) ⟨0, rep, zeroC23⟩ ⟨Nat.zero_le _, hR.a0.symm, by simp [seenC, hR.s0, List.range_succ]; rfl⟩ rfl ?_
              rintro ⟨j, a, sc⟩ ⟨hj, ha, hsc⟩
              have hsc8 : sc.length = 8 := by rw [hsc]; exact seenC_len _ _
              have hnp := hR.pos
              have hnl := hR.le
              refine .seq ?_
              refine .reg ?_
              refine .q rfl (q_bin (v := .bool (decide ((j : Int) < c))) rfl rfl rfl rfl) ?_
              refine .nil ?_
              refine .seq ?_
              by_cases h9 : (j : Int) < c
              · skip
                have h9b : decide ((j : Int) < c) = true := decide_eq_true h9
                refine .cond_t (b := decide ((j : Int) < c)) rfl h9b ?_
                refine .skip ?_
                refine .seq ?_
                refine .block ?_
                refine .seq ?_
                refine .reg ?_
                refine .q rfl (q_move (q := vi .i64 ((j : Int))) rfl rfl) ?_
                refine .q rfl (q_assign (q := vi .i64 ((j : Int))) rfl rfl) ?_
                refine .nil ?_
                refine .seq ?_
                refine .reg ?_
                refine .q rfl (q_load (q := .agg (ST)) rfl rfl (loads_whole (b := 1) (cs := ST) tyAgg33 tySz33 rfl hST.len)) ?_
                refine .q rfl (q_field (fo := 16) rfl fo25_2 rfl) ?_
                refine .q rfl (q_load (q := .agg (((PC).drop 16).take 8)) rfl rfl (loads_row (b := 0) (off := 16) (n := 8) (cs := PC) tyAgg23 tySz23 rfl rfl hL16)) ?_
                refine .q rfl (q_field (fo := 24) rfl fo25_3 rfl) ?_
                refine .q rfl (q_load (q := .agg (((PC).drop 24).take 8)) rfl rfl (loads_row (b := 0) (off := 24) (n := 8) (cs := PC) tyAgg23 tySz23 rfl rfl hL24)) ?_
                refine .q rfl (q_move (q := vi .i64 (a)) rfl rfl) ?_
                refine .q rfl (q_call (ps := [.agg (ST), .agg (((PC).drop 16).take 8), .agg (((PC).drop 24).take 8), vi .i64 (a)]) (r := vi .i64 (nextF (wm W) R ro up (a))) rfl callable16 rfl ⟨hST.pure, (hP.pure.part 16 8), (hP.pure.part 24 8), trivial, trivial⟩ trivial (next_spec hST hP.roB hP.upB (a))) ?_
                refine .q rfl (q_assign (q := vi .i64 (nextF (wm W) R ro up (a))) rfl rfl) ?_
                refine .nil ?_
                refine .seq ?_
                refine .seq ?_
                refine .reg ?_
                refine .q rfl (q_move (q := vi .i64 (c)) rfl rfl) ?_
                refine .q rfl (q_bin (v := .bool ((c == 1))) rfl rfl rfl rfl) ?_
                refine .nil ?_
                by_cases h10 : c = 1
                · skip
                  have h10b : (c == 1) = true := beq_iff_eq.2 h10
                  refine .cond_t (b := (c == 1)) rfl h10b ?_
                  refine .seq ?_
                  refine .reg ?_
                  refine .q rfl (q_move (q := vi .i64 (nextF (wm W) R ro up (a))) rfl rfl) ?_
                  refine .q rfl (q_bin (v := .bool ((nextF (wm W) R ro up (a) == 0))) rfl rfl rfl rfl) ?_
                  refine .q rfl (q_assign (q := vb ((nextF (wm W) R ro up (a) == 0))) rfl rfl) ?_
                  refine .nil ?_
                  refine .ret ?_
                  exact ⟨_, res_one rfl (q := vb ((nextF (wm W) R ro up (a) == 0))) rfl, (congrArg vb (beq_iff_eq.2 (by have e1 : n = 1 := (by omega); have e2 : j = 0 := (by omega); rw [ha, e2, hR.a0]; exact hR.one e1)))⟩
                · skip
                  have h10b : (c == 1) = false := beq_eq_false_iff_ne.2 h10
                  have hne : n ≠ 1 := fun e => h10 (by rw [hcn, e]; rfl)
                  have hR2 := hR.ring hne
                  have hx : nextF (wm W) R ro up (a) = at_ (j + 1) := by rw [ha]; exact hR2.nx j (by omega)
                  have hxb := hR2.bd (j + 1) (by omega)
                  have hxs := hR2.ns j (by omega)
                  have hxo := hR2.of (j + 1) (by omega)
                  have hxn := hR2.ne j (by omega)
                  rw [← hx] at hxb hxs hxo hxn
                  refine .cond_f (b := (c == 1)) rfl h10b ?_
                  refine .skip ?_
                  refine .seq ?_
                  refine .seq ?_
                  refine .drw (n := 120) [vi .i64 (nextF (wm W) R ro up (a)), vb (decide (nextF (wm W) R ro up (a) < 1)), vb (decide (nextF (wm W) R ro up (a) < 1)), vi .i64 (nextF (wm W) R ro up (a)), vb (decide (nextF (wm W) R ro up (a) > 8)), vb (decide (nextF (wm W) R ro up (a) > 8)), vb (decide (nextF (wm W) R ro up (a) > 8)), vi .i64 (nextF (wm W) R ro up (a)), vi .i64 ((nextF (wm W) R ro up (a)) - 1), .ptr 2 (0 + ((nextF (wm W) R ro up (a)) - 1).toNat), vb (sn j ((nextF (wm W) R ro up (a)) - 1).toNat), vb (sn j ((nextF (wm W) R ro up (a)) - 1).toNat), vb (sn j ((nextF (wm W) R ro up (a)) - 1).toNat), .agg (ST), vi .i64 (nextF (wm W) R ro up (a)), vi .i64 (ofF (wm W) (nextF (wm W) R ro up (a))), .agg (ST), vi .i64 (rep), vi .i64 (ofF (wm W) (rep)), vb ((ofF (wm W) (nextF (wm W) R ro up (a)) != ofF (wm W) (rep))), vb ((ofF (wm W) (nextF (wm W) R ro up (a)) != ofF (wm W) (rep)))] follows rfl (by kernel_rfl) (by kernel_rfl) ?_ ?_
                  · skip
                    refine .q rfl (q_move (q := vi .i64 (nextF (wm W) R ro up (a))) rfl rfl) ?_
                    refine .q rfl (q_bin (v := .bool (decide (nextF (wm W) R ro up (a) < 1))) rfl rfl rfl rfl) ?_
                    refine .q rfl (q_move (q := vb (decide (nextF (wm W) R ro up (a) < 1))) rfl rfl) ?_
                    refine .q (guard_y rfl (decide_eq_false (by omega))) (q_move (q := vi .i64 (nextF (wm W) R ro up (a))) rfl rfl) ?_
                    refine .q (guard_y rfl (decide_eq_false (by omega))) (q_bin (v := .bool (decide (nextF (wm W) R ro up (a) > 8))) rfl rfl rfl rfl) ?_
                    refine .q rfl (q_pick_f (b := decide (nextF (wm W) R ro up (a) < 1)) (q := vb (decide (nextF (wm W) R ro up (a) > 8))) rfl rfl (decide_eq_false (by omega)) rfl) ?_
                    refine .q rfl (q_move (q := vb (decide (nextF (wm W) R ro up (a) > 8))) rfl rfl) ?_
                    refine .q (guard_y rfl (decide_eq_false (by omega))) (q_move (q := vi .i64 (nextF (wm W) R ro up (a))) rfl rfl) ?_
                    refine .q (guard_y rfl (decide_eq_false (by omega))) (q_bin (v := .int .i64 ((nextF (wm W) R ro up (a)) - 1)) rfl rfl rfl (sub64 (by omega))) ?_
                    refine .q (guard_y rfl (decide_eq_false (by omega))) (q_iptr (off' := 0 + ((nextF (wm W) R ro up (a)) - 1).toNat) rfl tyUn23 tySz4 rfl rfl (by omega) (by omega) (by omega)) ?_
                    refine .q (guard_y rfl (decide_eq_false (by omega))) (q_load (q := vb (sn j ((nextF (wm W) R ro up (a)) - 1).toNat)) rfl rfl (loads_cell (b := 2) (off := 0 + ((nextF (wm W) R ro up (a)) - 1).toNat) (cs := sc) tyAgg4 rfl (by rw [hsc, Nat.zero_add]; exact seenC_get (by omega)))) ?_
                    refine .q rfl (q_pick_f (b := decide (nextF (wm W) R ro up (a) > 8)) (q := vb (sn j ((nextF (wm W) R ro up (a)) - 1).toNat)) rfl rfl (decide_eq_false (by omega)) rfl) ?_
                    refine .q rfl (q_move (q := vb (sn j ((nextF (wm W) R ro up (a)) - 1).toNat)) rfl rfl) ?_
                    refine .q (guard_y rfl hxs) (q_load (q := .agg (ST)) rfl rfl (loads_whole (b := 1) (cs := ST) tyAgg33 tySz33 rfl hST.len)) ?_
                    refine .q (guard_y rfl hxs) (q_move (q := vi .i64 (nextF (wm W) R ro up (a))) rfl rfl) ?_
                    refine .q (guard_y rfl hxs) (q_call (ps := [.agg (ST), vi .i64 (nextF (wm W) R ro up (a))]) (r := vi .i64 (ofF (wm W) (nextF (wm W) R ro up (a)))) rfl callable12 rfl ⟨hST.pure, trivial, trivial⟩ trivial (of_spec hST (nextF (wm W) R ro up (a)))) ?_
                    refine .q (guard_y rfl hxs) (q_load (q := .agg (ST)) rfl rfl (loads_whole (b := 1) (cs := ST) tyAgg33 tySz33 rfl hST.len)) ?_
                    refine .q (guard_y rfl hxs) (q_move (q := vi .i64 (rep)) rfl rfl) ?_
                    refine .q (guard_y rfl hxs) (q_call (ps := [.agg (ST), vi .i64 (rep)]) (r := vi .i64 (ofF (wm W) (rep))) rfl callable12 rfl ⟨hST.pure, trivial, trivial⟩ trivial (of_spec hST (rep))) ?_
                    refine .q (guard_y rfl hxs) (q_bin (v := .bool ((ofF (wm W) (nextF (wm W) R ro up (a)) != ofF (wm W) (rep)))) rfl rfl rfl rfl) ?_
                    refine .q rfl (q_pick_f (b := sn j ((nextF (wm W) R ro up (a)) - 1).toNat) (q := vb ((ofF (wm W) (nextF (wm W) R ro up (a)) != ofF (wm W) (rep)))) rfl rfl hxs rfl) ?_
                    exact .nil
                  refine .cond_f (b := (ofF (wm W) (nextF (wm W) R ro up (a)) != ofF (wm W) (rep))) rfl (bne_eq_false_iff_eq.2 hxo) ?_
                  refine .skip ?_
                  refine .seq ?_
                  refine .reg ?_
                  refine .q rfl (q_move (q := vi .i64 (nextF (wm W) R ro up (a))) rfl rfl) ?_
                  refine .q rfl (q_bin (v := .int .i64 ((nextF (wm W) R ro up (a)) - 1)) rfl rfl rfl (sub64 (by omega))) ?_
                  refine .q rfl (q_iptr (off' := 0 + ((nextF (wm W) R ro up (a)) - 1).toNat) rfl tyUn23 tySz4 rfl rfl (by omega) (by omega) (by omega)) ?_
                  refine .e rfl (step_store' (q := splice (sc) (0 + ((nextF (wm W) R ro up (a)) - 1).toNat) [vb (true)]) rfl rfl tySz4 rfl rfl rfl rfl rfl (by rw [hsc8]; omega) rfl ?_)
                  refine .nil ?_
                  refine .seq ?_
                  refine .reg ?_
                  refine .q rfl (q_move (q := vi .i64 (nextF (wm W) R ro up (a))) rfl rfl) ?_
                  refine .q rfl (q_assign (q := vi .i64 (nextF (wm W) R ro up (a))) rfl rfl) ?_
                  refine .nil ?_
                  refine .seq ?_
                  refine .reg ?_
                  refine .q rfl (q_move (q := vi .i64 (nextF (wm W) R ro up (a))) rfl rfl) ?_
                  refine .q rfl (q_move (q := vi .i64 (rep)) rfl rfl) ?_
                  refine .q rfl (q_bin (v := .bool ((nextF (wm W) R ro up (a) == rep))) rfl rfl rfl rfl) ?_
                  refine .q rfl (q_move (q := vb ((nextF (wm W) R ro up (a) == rep))) rfl rfl) ?_
                  by_cases h11 : nextF (wm W) R ro up (a) = rep
                  · skip
                    have h11b : (nextF (wm W) R ro up (a) == rep) = true := beq_iff_eq.2 h11
                    refine .q (guard_y rfl h11b) (q_move (q := vi .i64 ((j : Int))) rfl rfl) ?_
                    refine .q (guard_y rfl h11b) (q_move (q := vi .i64 (c)) rfl rfl) ?_
                    refine .q (guard_y rfl h11b) (q_bin (v := .int .i64 ((c) - 1)) rfl rfl rfl (sub64 (by omega))) ?_
                    refine .q (guard_y rfl h11b) (q_bin (v := .bool (((j : Int) != (c) - 1))) rfl rfl rfl rfl) ?_
                    refine .q rfl (q_pick_t (b := (nextF (wm W) R ro up (a) == rep)) (q := vb (((j : Int) != (c) - 1))) rfl rfl h11b rfl) ?_
                    refine .nil ?_
                    refine .cond_f (b := ((j : Int) != (c) - 1)) rfl (bne_eq_false_iff_eq.2 (by have : j + 1 = n := Classical.byContradiction fun e => hxn e h11; omega)) ?_
                    refine .skip ?_
                    refine .reg ?_
                    refine .q rfl (q_bin (v := .int .i64 (((j : Int)) + 1)) rfl rfl rfl (add64 (by omega))) ?_
                    refine .q rfl (q_move (q := vi .i64 ((((j : Int)) + 1))) rfl rfl) ?_
                    refine .nil ?_
                    exact ⟨⟨j + 1, nextF (wm W) R ro up (a), splice (sc) (0 + ((nextF (wm W) R ro up (a)) - 1).toNat) [vb (true)]⟩, ⟨by omega, hx, by rw [hsc]; exact seenC_put (by omega) (fun q => by rw [hx]; exact hR2.s1 j (by omega) q)⟩, rfl, (by show n - (j + 1) < n - j; omega)⟩
                  · skip
                    have h11b : (nextF (wm W) R ro up (a) == rep) = false := beq_eq_false_iff_ne.2 h11
                    refine .no (guard_n rfl h11b) ?_
                    refine .no (guard_n rfl h11b) ?_
                    refine .no (guard_n rfl h11b) ?_
                    refine .no (guard_n rfl h11b) ?_
                    refine .q rfl (q_pick_f (b := (nextF (wm W) R ro up (a) == rep)) (q := vb (false)) rfl rfl h11b rfl) ?_
                    refine .nil ?_
                    refine .cond (b := false) rfl ?_
                    refine .skip ?_
                    refine .reg ?_
                    refine .q rfl (q_bin (v := .int .i64 (((j : Int)) + 1)) rfl rfl rfl (add64 (by omega))) ?_
                    refine .q rfl (q_move (q := vi .i64 ((((j : Int)) + 1))) rfl rfl) ?_
                    refine .nil ?_
                    exact ⟨⟨j + 1, nextF (wm W) R ro up (a), splice (sc) (0 + ((nextF (wm W) R ro up (a)) - 1).toNat) [vb (true)]⟩, ⟨by omega, hx, by rw [hsc]; exact seenC_put (by omega) (fun q => by rw [hx]; exact hR2.s1 j (by omega) q)⟩, rfl, (by show n - (j + 1) < n - j; omega)⟩
              · skip
                have h9b : decide ((j : Int) < c) = false := decide_eq_false h9
                refine .cond_f (b := decide ((j : Int) < c)) rfl h9b ?_
                refine .exit ?_
                refine .seq ?_
                refine .reg ?_
                refine .q rfl (q_move (q := vi .i64 (a)) rfl rfl) ?_
                refine .q rfl (q_move (q := vi .i64 (rep)) rfl rfl) ?_
                refine .q rfl (q_bin (v := .bool ((a == rep))) rfl rfl rfl rfl) ?_
                refine .q rfl (q_assign (q := vb ((a == rep))) rfl rfl) ?_
                refine .nil ?_
                refine .ret ?_
                exact ⟨_, res_one rfl (q := vb ((a == rep))) rfl, (congrArg vb (beq_iff_eq.2 (by rw [ha, show j = n from by omega]; exact hR.e)))⟩
          · skip
            refine .cond_t (b := !(up ((rep - 1)).toNat)) rfl (not_f h5) ?_
            refine .seq ?_
            refine .reg ?_
            refine .q rfl (q_assign (q := vb (true)) rfl rfl) ?_
            refine .nil ?_
            refine .ret ?_
            exact ⟨_, res_one rfl (q := vb (true)) rfl, rfl⟩
      · skip
        refine .no (guard_n rfl (not_f h3)) ?_
        refine .no (guard_n rfl (not_f h3)) ?_
        refine .no (guard_n rfl (not_f h3)) ?_
        refine .no (guard_n rfl (not_f h3)) ?_
        refine .no (guard_n rfl (not_f h3)) ?_
        refine .q rfl (q_pick_t (b := !(ro ((rep - 1)).toNat)) (q := vb (true)) rfl rfl (not_f h3) rfl) ?_
        refine .q rfl (q_move (q := vb (true)) rfl rfl) ?_
        refine .no rfl ?_
        refine .no rfl ?_
        refine .no rfl ?_
        refine .no rfl ?_
        refine .no rfl ?_
        refine .no rfl ?_
        refine .q rfl (q_pick_t (b := true) (q := vb (true)) rfl rfl rfl rfl) ?_
        refine .nil ?_
        refine .cond (b := true) rfl ?_
        refine .seq ?_
        refine .reg ?_
        refine .q rfl (q_assign (q := vb (true)) rfl rfl) ?_
        refine .nil ?_
        refine .ret ?_
        exact ⟨_, res_one rfl (q := vb (true)) rfl, rfl⟩

theorem eqG23 : Try.prog.eqGuardType Try.prog.depth 23 = false := by kernel_rfl
theorem eqT23 : eqTy Try.prog 3 23 = true := by kernel_rfl
theorem cells23 : Try.prog.cellsOf 23 = 8 := by kernel_rfl
theorem cells4 : Try.prog.cellsOf 4 = 1 := by kernel_rfl

theorem wardSpreads_calls {PC : List PV} {W : Nat → Int} {R ro up : Nat → Bool} (hP : IsPl PC W R ro up) (rep time : Int) (htime : 0 ≤ time) (k : Nat) : ACalls Try.prog 6 [.agg PC, vi .i64 rep, vi .u64 time] [] k (fun p _ _ => p = vb true) := by
  have hST := stEnd_is hP
  have hst := state_spec hP
  revert hST hst
  generalize stTo PC zSt W 8 = ST
  intro hST hst
  have hL0 : ((PC.drop 0).take 8).length = 8 := by simp [hP.len]
  have hL8 : ((PC.drop 8).take 8).length = 8 := by simp [hP.len]
  have hL16 : ((PC.drop 16).take 8).length = 8 := by simp [hP.len]
  have hL24 : ((PC.drop 24).take 8).length = 8 := by simp [hP.len]
  have htm : 0 ≤ (time).tmod 1000 ∧ (time).tmod 1000 < 1000 := by rw [Int.tmod_eq_emod_of_nonneg htime]; omega
  refine ACalls.of_body (n := 108) Try.func6 rfl rfl ?_
  refine .seq ?_
  refine .reg ?_
  refine .e rfl (step_box (p := .agg (PC)) rfl rfl rfl ?_)
  refine .q rfl (q_assign (q := vb (false)) rfl rfl) ?_
  refine .nil ?_
  refine .seq ?_
  refine .seq ?_
  refine .reg ?_
  refine .q rfl (q_call (ps := []) (r := vb (true)) rfl callable8 rfl trivial trivial lives_spec) ?_
  refine .q rfl (q_not (a := true) rfl rfl) ?_
  refine .nil ?_
  refine .cond (b := false) rfl ?_
  refine .skip ?_
  refine .seq ?_
  refine .reg ?_
  refine .q rfl (q_load (q := .agg (PC)) rfl rfl (loads_whole (b := 0) (cs := PC) tyAgg25 tySz25 rfl hP.len)) ?_
  refine .q rfl (q_call (ps := [.agg (PC)]) (r := .agg (ST)) rfl callable9 rfl ⟨hP.pure, trivial⟩ hST.pure hst) ?_
  refine .e rfl (step_alloc rfl zero33 zeroLeaf33 ?_)
  refine .e rfl (step_store' (q := ST) rfl rfl tySz33 rfl rfl rfl hST.len rfl (by decide) (splice_all rfl hST.len) ?_)
  refine .nil ?_
  refine .seq ?_
  refine .reg ?_
  refine .e rfl (step_alloc rfl zero23 zeroLeaf23 ?_)
  refine .nil ?_
  refine .seq ?_
  refine .reg ?_
  refine .q rfl (q_assign (q := vi .u64 (0)) rfl rfl) ?_
  refine .nil ?_
  refine .seq ?_
  refine .seq ?_
  refine .reg ?_
  refine .q rfl (q_move (q := vi .i64 (0)) rfl rfl) ?_
  refine .nil ?_
  refine .block ?_
  refine .loopK (S := Nat × Int × List PV) [1, 2, 3, 6, 7, 8, 9, 20] (fun ⟨i, c, ac⟩ => ⟨108, [(1, vi .i64 (rep)), (2, vi .u64 (time)), (3, .ptr 0 (0)), (6, vb (false)), (7, .ptr 1 (0)), (8, .ptr 2 (0)), (9, vi .u64 (c)), (20, vi .i64 ((i : Int)))], [.row (PC) 25, .row (ST) 33, .row (ac) 23], List.replicate k false⟩) (fun ⟨i, c, ac⟩ => i ≤ 8 ∧ c = (cntTo R ro i : Int) ∧ ac = kC (allTo R ro i)) (fun ⟨i, c, ac⟩ => 8 - i) ⟨0, 0, zeroC23⟩ ⟨Nat.zero_le _, rfl, rfl⟩ rfl ?_
  rintro ⟨i, c, ac⟩ ⟨hi, hc, hac⟩
  have hac8 : ac.length = 8 := by rw [hac]; exact kC_len _
  have hcb := cntTo_le R ro i
  have hB_ac := hac ▸ kC_is (allTo R ro i)
  refine .seq ?_
  refine .reg ?_
  refine .q rfl (q_bin (v := .bool (decide ((i : Int) < 8))) rfl rfl rfl rfl) ?_
  refine .nil ?_
  refine .seq ?_
  by_cases h1 : (i : Int) < 8
  · skip
    have h1b : decide ((i : Int) < 8) = true := decide_eq_true h1
    refine .cond_t (b := decide ((i : Int) < 8)) rfl h1b ?_
    refine .skip ?_
    refine .seq ?_
    refine .block ?_
    refine .seq ?_
    refine .reg ?_
    refine .q rfl (q_move (q := vi .i64 ((i : Int))) rfl rfl) ?_
    refine .q rfl (q_assign (q := vi .i64 ((i : Int))) rfl rfl) ?_
    refine .nil ?_
    refine .seq ?_
    refine .reg ?_
    refine .q rfl (q_move (q := vi .i64 ((i : Int))) rfl rfl) ?_
    refine .q rfl (q_move (q := vi .i64 ((i : Int))) rfl rfl) ?_
    refine .q rfl (q_field (fo := 16) rfl fo25_2 rfl) ?_
    refine .q rfl (q_iptr (off' := 16 + ((i : Int)).toNat) rfl tyUn23 tySz4 rfl rfl (by omega) (by omega) (by omega)) ?_
    refine .q rfl (q_load (q := vb (ro i)) rfl rfl (loads_cell (b := 0) (off := 16 + ((i : Int)).toNat) (cs := PC) tyAgg4 rfl (by have := hP.ro i (by omega); simpa using this))) ?_
    refine .q rfl (q_move (q := vb (ro i)) rfl rfl) ?_
    rcases Bool.eq_false_or_eq_true (ro i) with h2 | h2
    · skip
      refine .q (guard_y rfl h2) (q_move (q := vi .i64 ((i : Int))) rfl rfl) ?_
      refine .q (guard_y rfl h2) (q_field (fo := 8) rfl fo25_1 rfl) ?_
      refine .q (guard_y rfl h2) (q_iptr (off' := 8 + ((i : Int)).toNat) rfl tyUn23 tySz4 rfl rfl (by omega) (by omega) (by omega)) ?_
      refine .q (guard_y rfl h2) (q_load (q := vb (R i)) rfl rfl (loads_cell (b := 0) (off := 8 + ((i : Int)).toNat) (cs := PC) tyAgg4 rfl (by have := hP.r i (by omega); simpa using this))) ?_
      refine .q (guard_y rfl h2) (q_not (a := R i) rfl rfl) ?_
      refine .q rfl (q_pick_t (b := ro i) (q := vb (!(R i))) rfl rfl h2 rfl) ?_
      refine .q rfl (q_iptr (off' := 0 + ((i : Int)).toNat) rfl tyUn23 tySz4 rfl rfl (by omega) (by omega) (by omega)) ?_
      refine .e rfl (step_store' (q := splice (ac) (0 + ((i : Int)).toNat) [vb (!(R i))]) rfl rfl tySz4 rfl rfl rfl rfl rfl (by rw [hac8]; simp; omega) rfl ?_)
      refine .nil ?_
      refine .seq ?_
      refine .reg ?_
      refine .q rfl (q_move (q := vi .i64 ((i : Int))) rfl rfl) ?_
      refine .q rfl (q_iptr (off' := 0 + ((i : Int)).toNat) rfl tyUn23 tySz4 rfl rfl (by omega) (by omega) (by omega)) ?_
      refine .q rfl (q_load (q := vb (allF R ro i)) rfl rfl (loads_cell (b := 2) (off := 0 + ((i : Int)).toNat) (cs := splice (ac) (0 + ((i : Int)).toNat) [vb (!(R i))]) tyAgg4 rfl (by rw [hac, show ((i : Int)).toNat = i by omega, allTo_succ (by omega) (by simp [allF, h2]), Nat.zero_add, kC_get (by omega)]; simp [allTo]))) ?_
      refine .nil ?_
      rcases Bool.eq_false_or_eq_true (allF R ro i) with h3 | h3
      · skip
        refine .cond_t (b := allF R ro i) rfl h3 ?_
        refine .reg ?_
        refine .q rfl (q_move (q := vi .u64 (c)) rfl rfl) ?_
        refine .q rfl (q_bin (v := .int .u64 (c + 1)) rfl rfl rfl (addU (by omega))) ?_
        refine .q rfl (q_assign (q := vi .u64 (c + 1)) rfl rfl) ?_
        refine .nil ?_
        refine .reg ?_
        refine .q rfl (q_bin (v := .int .i64 (((i : Int)) + 1)) rfl rfl rfl (add64 (by omega))) ?_
        refine .q rfl (q_move (q := vi .i64 ((((i : Int)) + 1))) rfl rfl) ?_
        refine .nil ?_
        exact ⟨⟨i + 1, c + 1, splice (ac) (0 + ((i : Int)).toNat) [vb (!(R i))]⟩, ⟨by omega, by rw [cntTo_succ, if_pos h3, hc]; omega, by rw [hac, show ((i : Int)).toNat = i by omega]; exact allTo_succ (by omega) (by simp [allF, h2])⟩, rfl, (by show 8 - (i + 1) < 8 - i; omega)⟩
      · skip
        refine .cond_f (b := allF R ro i) rfl h3 ?_
        refine .skip ?_
        refine .reg ?_
        refine .q rfl (q_bin (v := .int .i64 (((i : Int)) + 1)) rfl rfl rfl (add64 (by omega))) ?_
        refine .q rfl (q_move (q := vi .i64 ((((i : Int)) + 1))) rfl rfl) ?_
        refine .nil ?_
        exact ⟨⟨i + 1, c, splice (ac) (0 + ((i : Int)).toNat) [vb (!(R i))]⟩, ⟨by omega, by rw [cntTo_succ, if_neg (by rw [h3]; simp), hc]; omega, by rw [hac, show ((i : Int)).toNat = i by omega]; exact allTo_succ (by omega) (by simp [allF, h2])⟩, rfl, (by show 8 - (i + 1) < 8 - i; omega)⟩
    · skip
      refine .no (guard_n rfl h2) ?_
      refine .no (guard_n rfl h2) ?_
      refine .no (guard_n rfl h2) ?_
      refine .no (guard_n rfl h2) ?_
      refine .no (guard_n rfl h2) ?_
      refine .q rfl (q_pick_f (b := ro i) (q := vb (false)) rfl rfl h2 rfl) ?_
      refine .q rfl (q_iptr (off' := 0 + ((i : Int)).toNat) rfl tyUn23 tySz4 rfl rfl (by omega) (by omega) (by omega)) ?_
      refine .e rfl (step_store' (q := splice (ac) (0 + ((i : Int)).toNat) [vb (false)]) rfl rfl tySz4 rfl rfl rfl rfl rfl (by rw [hac8]; simp; omega) rfl ?_)
      refine .nil ?_
      refine .seq ?_
      refine .reg ?_
      refine .q rfl (q_move (q := vi .i64 ((i : Int))) rfl rfl) ?_
      refine .q rfl (q_iptr (off' := 0 + ((i : Int)).toNat) rfl tyUn23 tySz4 rfl rfl (by omega) (by omega) (by omega)) ?_
      refine .q rfl (q_load (q := vb (allF R ro i)) rfl rfl (loads_cell (b := 2) (off := 0 + ((i : Int)).toNat) (cs := splice (ac) (0 + ((i : Int)).toNat) [vb (false)]) tyAgg4 rfl (by rw [hac, show ((i : Int)).toNat = i by omega, allTo_succ (by omega) (by simp [allF, h2]), Nat.zero_add, kC_get (by omega)]; simp [allTo]))) ?_
      refine .nil ?_
      rcases Bool.eq_false_or_eq_true (allF R ro i) with h4 | h4
      · skip
        refine .cond_t (b := allF R ro i) rfl h4 ?_
        refine .reg ?_
        refine .q rfl (q_move (q := vi .u64 (c)) rfl rfl) ?_
        refine .q rfl (q_bin (v := .int .u64 (c + 1)) rfl rfl rfl (addU (by omega))) ?_
        refine .q rfl (q_assign (q := vi .u64 (c + 1)) rfl rfl) ?_
        refine .nil ?_
        refine .reg ?_
        refine .q rfl (q_bin (v := .int .i64 (((i : Int)) + 1)) rfl rfl rfl (add64 (by omega))) ?_
        refine .q rfl (q_move (q := vi .i64 ((((i : Int)) + 1))) rfl rfl) ?_
        refine .nil ?_
        exact ⟨⟨i + 1, c + 1, splice (ac) (0 + ((i : Int)).toNat) [vb (false)]⟩, ⟨by omega, by rw [cntTo_succ, if_pos h4, hc]; omega, by rw [hac, show ((i : Int)).toNat = i by omega]; exact allTo_succ (by omega) (by simp [allF, h2])⟩, rfl, (by show 8 - (i + 1) < 8 - i; omega)⟩
      · skip
        refine .cond_f (b := allF R ro i) rfl h4 ?_
        refine .skip ?_
        refine .reg ?_
        refine .q rfl (q_bin (v := .int .i64 (((i : Int)) + 1)) rfl rfl rfl (add64 (by omega))) ?_
        refine .q rfl (q_move (q := vi .i64 ((((i : Int)) + 1))) rfl rfl) ?_
        refine .nil ?_
        exact ⟨⟨i + 1, c, splice (ac) (0 + ((i : Int)).toNat) [vb (false)]⟩, ⟨by omega, by rw [cntTo_succ, if_neg (by rw [h4]; simp), hc]; omega, by rw [hac, show ((i : Int)).toNat = i by omega]; exact allTo_succ (by omega) (by simp [allF, h2])⟩, rfl, (by show 8 - (i + 1) < 8 - i; omega)⟩
  · skip
    have h1b : decide ((i : Int) < 8) = false := decide_eq_false h1
    refine .cond_f (b := decide ((i : Int) < 8)) rfl h1b ?_
    refine .exit ?_
    refine .seq ?_
    refine .seq ?_
    refine .reg ?_
    refine .q rfl (q_move (q := vi .i64 (rep)) rfl rfl) ?_
    refine .q rfl (q_bin (v := .bool (decide (rep < 1))) rfl rfl rfl rfl) ?_
    refine .q rfl (q_move (q := vb (decide (rep < 1))) rfl rfl) ?_
    by_cases h5 : rep < 1
    · skip
      have h5b : decide (rep < 1) = true := decide_eq_true h5
      refine .no (guard_n rfl h5b) ?_
      refine .no (guard_n rfl h5b) ?_
      refine .q rfl (q_pick_t (b := decide (rep < 1)) (q := vb (true)) rfl rfl h5b rfl) ?_
      refine .q rfl (q_move (q := vb (true)) rfl rfl) ?_
      refine .no rfl ?_
      refine .no rfl ?_
      refine .no rfl ?_
      refine .no rfl ?_
      refine .no rfl ?_
      refine .q rfl (q_pick_t (b := true) (q := vb (true)) rfl rfl rfl rfl) ?_
      refine .nil ?_
      refine .cond (b := true) rfl ?_
      refine .seq ?_
      refine .reg ?_
      refine .q rfl (q_assign (q := vb (true)) rfl rfl) ?_
      refine .nil ?_
      refine .ret ?_
      exact ⟨_, res_one rfl (q := vb (true)) rfl, rfl⟩
    · skip
      have h5b : decide (rep < 1) = false := decide_eq_false h5
      refine .q (guard_y rfl h5b) (q_move (q := vi .i64 (rep)) rfl rfl) ?_
      refine .q (guard_y rfl h5b) (q_bin (v := .bool (decide (rep > 8))) rfl rfl rfl rfl) ?_
      refine .q rfl (q_pick_f (b := decide (rep < 1)) (q := vb (decide (rep > 8))) rfl rfl h5b rfl) ?_
      refine .q rfl (q_move (q := vb (decide (rep > 8))) rfl rfl) ?_
      by_cases h6 : rep > 8
      · skip
        have h6b : decide (rep > 8) = true := decide_eq_true h6
        refine .no (guard_n rfl h6b) ?_
        refine .no (guard_n rfl h6b) ?_
        refine .no (guard_n rfl h6b) ?_
        refine .no (guard_n rfl h6b) ?_
        refine .no (guard_n rfl h6b) ?_
        refine .q rfl (q_pick_t (b := decide (rep > 8)) (q := vb (true)) rfl rfl h6b rfl) ?_
        refine .nil ?_
        refine .cond (b := true) rfl ?_
        refine .seq ?_
        refine .reg ?_
        refine .q rfl (q_assign (q := vb (true)) rfl rfl) ?_
        refine .nil ?_
        refine .ret ?_
        exact ⟨_, res_one rfl (q := vb (true)) rfl, rfl⟩
      · skip
        have h6b : decide (rep > 8) = false := decide_eq_false h6
        refine .q (guard_y rfl h6b) (q_move (q := vi .i64 (rep)) rfl rfl) ?_
        refine .q (guard_y rfl h6b) (q_bin (v := .int .i64 (rep - 1)) rfl rfl rfl (sub64 (by omega))) ?_
        refine .q (guard_y rfl h6b) (q_iptr (off' := 0 + ((rep - 1)).toNat) rfl tyUn23 tySz4 rfl rfl (by omega) (by omega) (by omega)) ?_
        refine .q (guard_y rfl h6b) (q_load (q := vb (allF R ro ((rep - 1)).toNat)) rfl rfl (loads_cell (b := 2) (off := 0 + ((rep - 1)).toNat) (cs := ac) tyAgg4 rfl (by rw [hac, show i = 8 by omega, allTo_end, Nat.zero_add]; exact kC_get (by omega)))) ?_
        refine .q (guard_y rfl h6b) (q_not (a := allF R ro ((rep - 1)).toNat) rfl rfl) ?_
        refine .q rfl (q_pick_f (b := decide (rep > 8)) (q := vb (!(allF R ro ((rep - 1)).toNat))) rfl rfl h6b rfl) ?_
        refine .nil ?_
        rcases Bool.eq_false_or_eq_true (allF R ro ((rep - 1)).toNat) with h7 | h7
        · skip
          refine .cond_f (b := !(allF R ro ((rep - 1)).toNat)) rfl (not_t h7) ?_
          refine .skip ?_
          refine .seq ?_
          refine .reg ?_
          refine .e rfl (step_alloc rfl zero23 zeroLeaf23 ?_)
          refine .nil ?_
          refine .seq ?_
          refine .reg ?_
          refine .q rfl (q_move (q := vi .i64 (rep)) rfl rfl) ?_
          refine .q rfl (q_bin (v := .int .i64 (rep - 1)) rfl rfl rfl (sub64 (by omega))) ?_
          refine .q rfl (q_iptr (off' := 0 + ((rep - 1)).toNat) rfl tyUn23 tySz4 rfl rfl (by omega) (by omega) (by omega)) ?_
          refine .e rfl (step_store' (q := splice (zeroC23) (0 + ((rep - 1)).toNat) [vb (true)]) rfl rfl tySz4 rfl rfl rfl rfl rfl (by show _ ≤ 8; simp; omega) rfl ?_)
          refine .nil ?_
          refine .seq ?_
          refine .seq ?_
          refine .reg ?_
          refine .q rfl (q_move (q := vi .u64 (c)) rfl rfl) ?_
          refine .q rfl (q_move (q := vi .u64 (0)) rfl rfl) ?_
          refine .nil ?_
          refine .block ?_
          have hi8 : i = 8 := by omega
          subst hi8
          have hA : ac = kC (allF R ro) := by rw [hac, allTo_end]
          have hAB : IsB ac (allF R ro) := hA ▸ kC_is _
          refine .loopK (S := Nat × (Nat → Bool) × List PV) [1, 2, 3, 6, 7, 8, 9, 11, 58, 59] (fun ⟨r, K, kc⟩ => ⟨108, [(1, vi .i64 (rep)), (2, vi .u64 (time)), (3, .ptr 0 (0)), (6, vb (false)), (7, .ptr 1 (0)), (8, .ptr 2 (0)), (9, vi .u64 (c)), (11, .ptr 3 (0)), (58, vi .u64 (c)), (59, vi .u64 ((r : Int)))], [.row (PC) 25, .row (ST) 33, .row (ac) 23, .row (kc) 23], List.replicate k false⟩) (fun ⟨r, K, kc⟩ => r ≤ cntTo R ro 8 ∧ kc = kC K ∧ (∀ j, j < 8 → K j = true → allF R ro j = true) ∧ K (rep - 1).toNat = true ∧ Far R ro K r) (fun ⟨r, K, kc⟩ => cntTo R ro 8 - r) ⟨0, one8 (rep - 1).toNat, splice (zeroC23) (0 + ((rep - 1)).toNat) [vb (true)]⟩ ⟨Nat.zero_le _, one8_put (by omega), fun j _ h => by have e : j = (rep - 1).toNat := of_decide_eq_true h; subst e; exact h7, by simp [one8], .inl (one8_card (by omega))⟩ rfl ?_
          rintro ⟨r, K, kc⟩ ⟨hr, hkc, hsub, hk, hfar⟩
          have hkc8 : kc.length = 8 := by rw [hkc]; exact kC_len _
          have hB_kc := hkc ▸ kC_is K
          refine .seq ?_
          refine .reg ?_
          refine .q rfl (q_bin (v := .bool (decide ((r : Int) < c))) rfl rfl rfl rfl) ?_
          refine .nil ?_
          refine .seq ?_
          by_cases h8 : (r : Int) < c
          · skip
            have h8b : decide ((r : Int) < c) = true := decide_eq_true h8
            refine .cond_t (b := decide ((r : Int) < c)) rfl h8b ?_
            refine .skip ?_
            refine .seq ?_
            refine .block ?_
            refine .seq ?_
            refine .reg ?_
            refine .q rfl (q_move (q := vi .u64 ((r : Int))) rfl rfl) ?_
            refine .q rfl (q_assign (q := vi .u64 ((r : Int))) rfl rfl) ?_
            refine .nil ?_
            refine .seq ?_
            refine .reg ?_
            refine .q rfl (q_move (q := vi .u64 (0)) rfl rfl) ?_
            refine .nil ?_
            refine .block ?_
            refine .loopK (S := Nat × (Nat → Bool) × List PV) [1, 2, 3, 6, 7, 8, 9, 11, 12, 58, 59, 62] (fun ⟨t, L, lc⟩ => ⟨108, [(1, vi .i64 (rep)), (2, vi .u64 (time)), (3, .ptr 0 (0)), (6, vb (false)), (7, .ptr 1 (0)), (8, .ptr 2 (0)), (9, vi .u64 (c)), (11, .ptr 3 (0)), (12, vi .u64 ((r : Int))), (58, vi .u64 (c)), (59, vi .u64 ((r : Int))), (62, vi .u64 ((t : Int)))], [.row (PC) 25, .row (ST) 33, .row (ac) 23, .row (lc) 23], List.replicate k false⟩) (fun ⟨t, L, lc⟩ => t ≤ 2 ∧ lc = kC L ∧ Sp (wm W) R ro K L t 0) (fun ⟨t, L, lc⟩ => 2 - t) ⟨0, K, kc⟩ ⟨Nat.zero_le _, hkc, Sp.init hsub⟩ rfl ?_
            rintro ⟨t, L, lc⟩ ⟨ht2, hl, hS3⟩
            have hl8 : lc.length = 8 := by rw [hl]; exact kC_len _
            have hB_lc := hl ▸ kC_is L
            refine .seq ?_
            refine .reg ?_
            refine .q rfl (q_bin (v := .bool (decide ((t : Int) < 2))) rfl rfl rfl rfl) ?_
            refine .nil ?_
            refine .seq ?_
            by_cases h9 : (t : Int) < 2
            · skip
              have h9b : decide ((t : Int) < 2) = true := decide_eq_true h9
              refine .cond_t (b := decide ((t : Int) < 2)) rfl h9b ?_
              refine .skip ?_
              refine .seq ?_
              refine .block ?_
              refine .seq ?_
              refine .reg ?_
              refine .q rfl (q_move (q := vi .u64 ((t : Int))) rfl rfl) ?_
              refine .q rfl (q_assign (q := vi .u64 ((t : Int))) rfl rfl) ?_
              refine .nil ?_
              refine .seq ?_
              refine .reg ?_
              refine .q rfl (q_move (q := vi .i64 (0)) rfl rfl) ?_
              refine .nil ?_
              refine .block ?_
              refine .loopK (S := Nat × (Nat → Bool) × List PV) [1, 2, 3, 6, 7, 8, 9, 11, 12, 13, 58, 59, 62, 65] (fun ⟨q, M, mc⟩ => ⟨108, [(1, vi .i64 (rep)), (2, vi .u64 (time)), (3, .ptr 0 (0)), (6, vb (false)), (7, .ptr 1 (0)), (8, .ptr 2 (0)), (9, vi .u64 (c)), (11, .ptr 3 (0)), (12, vi .u64 ((r : Int))), (13, vi .u64 ((t : Int))), (58, vi .u64 (c)), (59, vi .u64 ((r : Int))), (62, vi .u64 ((t : Int))), (65, vi .i64 ((q : Int)))], [.row (PC) 25, .row (ST) 33, .row (ac) 23, .row (mc) 23], List.replicate k false⟩) (fun ⟨q, M, mc⟩ => q ≤ 8 ∧ mc = kC M ∧ Sp (wm W) R ro K M t q) (fun ⟨q, M, mc⟩ => 8 - q) ⟨0, L, lc⟩ ⟨Nat.zero_le _, hl, hS3⟩ rfl ?_
              rintro ⟨q, M, mc⟩ ⟨hq, hm, hS4⟩
              have hm8 : mc.length = 8 := by rw [hm]; exact kC_len _
              have hB_mc := hm ▸ kC_is M
              have hcn := cntTo_le R ro 8
              have hw : whomF (wm W) R ro (allF R ro) ((q : Int) + 1) (((time).tmod 1000 * 2) + ((r : Int) * 2) + (t : Int)) = whomF (wm W) R ro (allF R ro) ((q : Int) + 1) (t : Int) := whom_par (by have e1 := Int.tmod_eq_emod_of_nonneg (a := ((time).tmod 1000 * 2) + ((r : Int) * 2) + (t : Int)) (b := 2) (by omega); have e2 := Int.tmod_eq_emod_of_nonneg (a := (t : Int)) (b := 2) (by omega); rw [e1, e2]; omega)
              refine .seq ?_
              refine .reg ?_
              refine .q rfl (q_bin (v := .bool (decide ((q : Int) < 8))) rfl rfl rfl rfl) ?_
              refine .nil ?_
              refine .seq ?_
              by_cases h10 : (q : Int) < 8
              · skip
                have h10b : decide ((q : Int) < 8) = true := decide_eq_true h10
                refine .cond_t (b := decide ((q : Int) < 8)) rfl h10b ?_
                refine .skip ?_
                refine .seq ?_
                refine .block ?_
                refine .seq ?_
                refine .reg ?_
                refine .q rfl (q_move (q := vi .i64 ((q : Int))) rfl rfl) ?_
                refine .q rfl (q_assign (q := vi .i64 ((q : Int))) rfl rfl) ?_
                refine .nil ?_
                refine .seq ?_
                refine .reg ?_
                refine .q rfl (q_load (q := .agg (ST)) rfl rfl (loads_whole (b := 1) (cs := ST) tyAgg33 tySz33 rfl hST.len)) ?_
                refine .q rfl (q_field (fo := 16) rfl fo25_2 rfl) ?_
                refine .q rfl (q_load (q := .agg (((PC).drop 16).take 8)) rfl rfl (loads_row (b := 0) (off := 16) (n := 8) (cs := PC) tyAgg23 tySz23 rfl rfl hL16)) ?_
                refine .q rfl (q_load (q := .agg (ac)) rfl rfl (loads_whole (b := 2) (cs := ac) tyAgg23 tySz23 rfl hac8)) ?_
                refine .q rfl (q_move (q := vi .i64 ((q : Int))) rfl rfl) ?_
                refine .q rfl (q_bin (v := .int .i64 ((q : Int) + 1)) rfl rfl rfl (add64 (by omega))) ?_
                refine .q rfl (q_move (q := vi .u64 (time)) rfl rfl) ?_
                refine .q rfl (q_rem (a := time) (b := 1000) rfl rfl rfl (by decide)) ?_
                refine .q rfl (q_bin (v := .int .u64 ((time).tmod 1000 * 2)) rfl rfl rfl (mulU (by omega))) ?_
                refine .q rfl (q_move (q := vi .u64 ((r : Int))) rfl rfl) ?_
                refine .q rfl (q_bin (v := .int .u64 ((r : Int) * 2)) rfl rfl rfl (mulU (by omega))) ?_
                refine .q rfl (q_bin (v := .int .u64 (((time).tmod 1000 * 2) + ((r : Int) * 2))) rfl rfl rfl (addU (by omega))) ?_
                refine .q rfl (q_move (q := vi .u64 ((t : Int))) rfl rfl) ?_
                refine .q rfl (q_bin (v := .int .u64 (((time).tmod 1000 * 2) + ((r : Int) * 2) + (t : Int))) rfl rfl rfl (addU (by omega))) ?_
                refine .q rfl (q_call (ps := [.agg (ST), .agg (((PC).drop 16).take 8), .agg (ac), vi .i64 ((q : Int) + 1), vi .u64 (((time).tmod 1000 * 2) + ((r : Int) * 2) + (t : Int))]) (r := vi .i64 (whomF (wm W) R ro (allF R ro) ((q : Int) + 1) (((time).tmod 1000 * 2) + ((r : Int) * 2) + (t : Int)))) rfl callable18 rfl ⟨hST.pure, (hP.pure.part 16 8), (hB_ac).pure, trivial, trivial, trivial⟩ trivial (whom_spec hST hP.roB hAB (wm_bd W) ((q : Int) + 1) (((time).tmod 1000 * 2) + ((r : Int) * 2) + (t : Int)))) ?_
                refine .q rfl (q_assign (q := vi .i64 (whomF (wm W) R ro (allF R ro) ((q : Int) + 1) (((time).tmod 1000 * 2) + ((r : Int) * 2) + (t : Int)))) rfl rfl) ?_
                refine .nil ?_
                refine .seq ?_
                refine .reg ?_
                refine .q rfl (q_move (q := vi .i64 ((q : Int))) rfl rfl) ?_
                refine .q rfl (q_iptr (off' := 0 + ((q : Int)).toNat) rfl tyUn23 tySz4 rfl rfl (by omega) (by omega) (by omega)) ?_
                refine .q rfl (q_load (q := vb (allF R ro q)) rfl rfl (loads_cell (b := 2) (off := 0 + ((q : Int)).toNat) (cs := ac) tyAgg4 rfl (by have := hAB.get q (by omega); simpa using this))) ?_
                refine .q rfl (q_move (q := vb (allF R ro q)) rfl rfl) ?_
                rcases Bool.eq_false_or_eq_true (allF R ro q) with h11 | h11
                · skip
                  refine .q (guard_y rfl h11) (q_move (q := vi .i64 (whomF (wm W) R ro (allF R ro) ((q : Int) + 1) (((time).tmod 1000 * 2) + ((r : Int) * 2) + (t : Int)))) rfl rfl) ?_
                  refine .q (guard_y rfl h11) (q_bin (v := .bool (decide (whomF (wm W) R ro (allF R ro) ((q : Int) + 1) (((time).tmod 1000 * 2) + ((r : Int) * 2) + (t : Int)) ≥ 1))) rfl rfl rfl rfl) ?_
                  refine .q rfl (q_pick_t (b := allF R ro q) (q := vb (decide (whomF (wm W) R ro (allF R ro) ((q : Int) + 1) (((time).tmod 1000 * 2) + ((r : Int) * 2) + (t : Int)) ≥ 1))) rfl rfl h11 rfl) ?_
                  refine .q rfl (q_move (q := vb (decide (whomF (wm W) R ro (allF R ro) ((q : Int) + 1) (((time).tmod 1000 * 2) + ((r : Int) * 2) + (t : Int)) ≥ 1))) rfl rfl) ?_
                  by_cases h12 : whomF (wm W) R ro (allF R ro) ((q : Int) + 1) (((time).tmod 1000 * 2) + ((r : Int) * 2) + (t : Int)) ≥ 1
                  · skip
                    have h12b : decide (whomF (wm W) R ro (allF R ro) ((q : Int) + 1) (((time).tmod 1000 * 2) + ((r : Int) * 2) + (t : Int)) ≥ 1) = true := decide_eq_true h12
                    refine .q (guard_y rfl h12b) (q_move (q := vi .i64 (whomF (wm W) R ro (allF R ro) ((q : Int) + 1) (((time).tmod 1000 * 2) + ((r : Int) * 2) + (t : Int)))) rfl rfl) ?_
                    refine .q (guard_y rfl h12b) (q_bin (v := .bool (decide (whomF (wm W) R ro (allF R ro) ((q : Int) + 1) (((time).tmod 1000 * 2) + ((r : Int) * 2) + (t : Int)) ≤ 8))) rfl rfl rfl rfl) ?_
                    refine .q rfl (q_pick_t (b := decide (whomF (wm W) R ro (allF R ro) ((q : Int) + 1) (((time).tmod 1000 * 2) + ((r : Int) * 2) + (t : Int)) ≥ 1)) (q := vb (decide (whomF (wm W) R ro (allF R ro) ((q : Int) + 1) (((time).tmod 1000 * 2) + ((r : Int) * 2) + (t : Int)) ≤ 8))) rfl rfl h12b rfl) ?_
                    refine .q rfl (q_move (q := vb (decide (whomF (wm W) R ro (allF R ro) ((q : Int) + 1) (((time).tmod 1000 * 2) + ((r : Int) * 2) + (t : Int)) ≤ 8))) rfl rfl) ?_
                    by_cases h13 : whomF (wm W) R ro (allF R ro) ((q : Int) + 1) (((time).tmod 1000 * 2) + ((r : Int) * 2) + (t : Int)) ≤ 8
                    · skip
                      have h13b : decide (whomF (wm W) R ro (allF R ro) ((q : Int) + 1) (((time).tmod 1000 * 2) + ((r : Int) * 2) + (t : Int)) ≤ 8) = true := decide_eq_true h13
                      refine .q (guard_y rfl h13b) (q_move (q := vi .i64 (whomF (wm W) R ro (allF R ro) ((q : Int) + 1) (((time).tmod 1000 * 2) + ((r : Int) * 2) + (t : Int)))) rfl rfl) ?_
                      refine .q (guard_y rfl h13b) (q_bin (v := .int .i64 ((whomF (wm W) R ro (allF R ro) ((q : Int) + 1) (((time).tmod 1000 * 2) + ((r : Int) * 2) + (t : Int))) - 1)) rfl rfl rfl (sub64 (by omega))) ?_
                      refine .q (guard_y rfl h13b) (q_iptr (off' := 0 + ((whomF (wm W) R ro (allF R ro) ((q : Int) + 1) (((time).tmod 1000 * 2) + ((r : Int) * 2) + (t : Int))) - 1).toNat) rfl tyUn23 tySz4 rfl rfl (by omega) (by omega) (by omega)) ?_
                      refine .q (guard_y rfl h13b) (q_load (q := vb (M ((whomF (wm W) R ro (allF R ro) ((q : Int) + 1) (((time).tmod 1000 * 2) + ((r : Int) * 2) + (t : Int))) - 1).toNat)) rfl rfl (loads_cell (b := 3) (off := 0 + ((whomF (wm W) R ro (allF R ro) ((q : Int) + 1) (((time).tmod 1000 * 2) + ((r : Int) * 2) + (t : Int))) - 1).toNat) (cs := mc) tyAgg4 rfl (by rw [hm, Nat.zero_add]; exact kC_get (by omega)))) ?_
                      refine .q rfl (q_pick_t (b := decide (whomF (wm W) R ro (allF R ro) ((q : Int) + 1) (((time).tmod 1000 * 2) + ((r : Int) * 2) + (t : Int)) ≤ 8)) (q := vb (M ((whomF (wm W) R ro (allF R ro) ((q : Int) + 1) (((time).tmod 1000 * 2) + ((r : Int) * 2) + (t : Int))) - 1).toNat)) rfl rfl h13b rfl) ?_
                      refine .nil ?_
                      rcases Bool.eq_false_or_eq_true (M ((whomF (wm W) R ro (allF R ro) ((q : Int) + 1) (((time).tmod 1000 * 2) + ((r : Int) * 2) + (t : Int))) - 1).toNat) with h14 | h14
                      · skip
                        refine .cond_t (b := M ((whomF (wm W) R ro (allF R ro) ((q : Int) + 1) (((time).tmod 1000 * 2) + ((r : Int) * 2) + (t : Int))) - 1).toNat) rfl h14 ?_
                        refine .reg ?_
                        refine .q rfl (q_move (q := vi .i64 ((q : Int))) rfl rfl) ?_
                        refine .q rfl (q_iptr (off' := 0 + ((q : Int)).toNat) rfl tyUn23 tySz4 rfl rfl (by omega) (by omega) (by omega)) ?_
                        refine .e rfl (step_store' (q := splice (mc) (0 + ((q : Int)).toNat) [vb (true)]) rfl rfl tySz4 rfl rfl rfl rfl rfl (by rw [hm8]; simp; omega) rfl ?_)
                        refine .nil ?_
                        refine .reg ?_
                        refine .q rfl (q_bin (v := .int .i64 ((q : Int) + 1)) rfl rfl rfl (add64 (by omega))) ?_
                        refine .q rfl (q_move (q := vi .i64 ((q : Int) + 1)) rfl rfl) ?_
                        refine .nil ?_
                        exact ⟨⟨q + 1, updK M q, splice (mc) (0 + ((q : Int)).toNat) [vb (true)]⟩, ⟨by omega, by rw [hm, show ((q : Int)).toNat = q by omega]; exact kC_set (by omega), hS4.yes h11⟩, rfl, (by show 8 - (q + 1) < 8 - q; omega)⟩
                      · skip
                        refine .cond_f (b := M ((whomF (wm W) R ro (allF R ro) ((q : Int) + 1) (((time).tmod 1000 * 2) + ((r : Int) * 2) + (t : Int))) - 1).toNat) rfl h14 ?_
                        refine .skip ?_
                        refine .reg ?_
                        refine .q rfl (q_bin (v := .int .i64 ((q : Int) + 1)) rfl rfl rfl (add64 (by omega))) ?_
                        refine .q rfl (q_move (q := vi .i64 ((q : Int) + 1)) rfl rfl) ?_
                        refine .nil ?_
                        exact ⟨⟨q + 1, M, mc⟩, ⟨by omega, hm, hS4.no (fun hh => by rw [← hw] at hh; obtain ⟨a1, a2, a3, a4⟩ := hh; first | exact absurd a1 (by rw [h14]; simp) | exact h14 a2 | exact h14 a3 | exact absurd a4 (by rw [h14]; simp))⟩, rfl, (by show 8 - (q + 1) < 8 - q; omega)⟩
                    · skip
                      have h13b : decide (whomF (wm W) R ro (allF R ro) ((q : Int) + 1) (((time).tmod 1000 * 2) + ((r : Int) * 2) + (t : Int)) ≤ 8) = false := decide_eq_false h13
                      refine .no (guard_n rfl h13b) ?_
                      refine .no (guard_n rfl h13b) ?_
                      refine .no (guard_n rfl h13b) ?_
                      refine .no (guard_n rfl h13b) ?_
                      refine .q rfl (q_pick_f (b := decide (whomF (wm W) R ro (allF R ro) ((q : Int) + 1) (((time).tmod 1000 * 2) + ((r : Int) * 2) + (t : Int)) ≤ 8)) (q := vb (false)) rfl rfl h13b rfl) ?_
                      refine .nil ?_
                      refine .cond (b := false) rfl ?_
                      refine .skip ?_
                      refine .reg ?_
                      refine .q rfl (q_bin (v := .int .i64 ((q : Int) + 1)) rfl rfl rfl (add64 (by omega))) ?_
                      refine .q rfl (q_move (q := vi .i64 ((q : Int) + 1)) rfl rfl) ?_
                      refine .nil ?_
                      exact ⟨⟨q + 1, M, mc⟩, ⟨by omega, hm, hS4.no (fun hh => by rw [← hw] at hh; obtain ⟨a1, a2, a3, a4⟩ := hh; first | exact absurd a1 (by rw [h13]; simp) | exact h13 a2 | exact h13 a3 | exact absurd a4 (by rw [h13]; simp))⟩, rfl, (by show 8 - (q + 1) < 8 - q; omega)⟩
                  · skip
                    have h12b : decide (whomF (wm W) R ro (allF R ro) ((q : Int) + 1) (((time).tmod 1000 * 2) + ((r : Int) * 2) + (t : Int)) ≥ 1) = false := decide_eq_false h12
                    refine .no (guard_n rfl h12b) ?_
                    refine .no (guard_n rfl h12b) ?_
                    refine .q rfl (q_pick_f (b := decide (whomF (wm W) R ro (allF R ro) ((q : Int) + 1) (((time).tmod 1000 * 2) + ((r : Int) * 2) + (t : Int)) ≥ 1)) (q := vb (false)) rfl rfl h12b rfl) ?_
                    refine .q rfl (q_move (q := vb (false)) rfl rfl) ?_
                    refine .no rfl ?_
                    refine .no rfl ?_
                    refine .no rfl ?_
                    refine .no rfl ?_
                    refine .q rfl (q_pick_f (b := false) (q := vb (false)) rfl rfl rfl rfl) ?_
                    refine .nil ?_
                    refine .cond (b := false) rfl ?_
                    refine .skip ?_
                    refine .reg ?_
                    refine .q rfl (q_bin (v := .int .i64 ((q : Int) + 1)) rfl rfl rfl (add64 (by omega))) ?_
                    refine .q rfl (q_move (q := vi .i64 ((q : Int) + 1)) rfl rfl) ?_
                    refine .nil ?_
                    exact ⟨⟨q + 1, M, mc⟩, ⟨by omega, hm, hS4.no (fun hh => by rw [← hw] at hh; obtain ⟨a1, a2, a3, a4⟩ := hh; first | exact absurd a1 (by rw [h12]; simp) | exact h12 a2 | exact h12 a3 | exact absurd a4 (by rw [h12]; simp))⟩, rfl, (by show 8 - (q + 1) < 8 - q; omega)⟩
                · skip
                  refine .no (guard_n rfl h11) ?_
                  refine .no (guard_n rfl h11) ?_
                  refine .q rfl (q_pick_f (b := allF R ro q) (q := vb (false)) rfl rfl h11 rfl) ?_
                  refine .q rfl (q_move (q := vb (false)) rfl rfl) ?_
                  refine .no rfl ?_
                  refine .no rfl ?_
                  refine .q rfl (q_pick_f (b := false) (q := vb (false)) rfl rfl rfl rfl) ?_
                  refine .q rfl (q_move (q := vb (false)) rfl rfl) ?_
                  refine .no rfl ?_
                  refine .no rfl ?_
                  refine .no rfl ?_
                  refine .no rfl ?_
                  refine .q rfl (q_pick_f (b := false) (q := vb (false)) rfl rfl rfl rfl) ?_
                  refine .nil ?_
                  refine .cond (b := false) rfl ?_
                  refine .skip ?_
                  refine .reg ?_
                  refine .q rfl (q_bin (v := .int .i64 ((q : Int) + 1)) rfl rfl rfl (add64 (by omega))) ?_
                  refine .q rfl (q_move (q := vi .i64 ((q : Int) + 1)) rfl rfl) ?_
                  refine .nil ?_
                  exact ⟨⟨q + 1, M, mc⟩, ⟨by omega, hm, hS4.no (fun hh => by rw [← hw] at hh; obtain ⟨a1, a2, a3, a4⟩ := hh; first | exact absurd a1 (by rw [h11]; simp) | exact h11 a2 | exact h11 a3 | exact absurd a4 (by rw [h11]; simp))⟩, rfl, (by show 8 - (q + 1) < 8 - q; omega)⟩
              · skip
                have h10b : decide ((q : Int) < 8) = false := decide_eq_false h10
                refine .cond_f (b := decide ((q : Int) < 8)) rfl h10b ?_
                refine .exit ?_
                refine .reg ?_
                refine .q rfl (q_bin (v := .int .u64 ((t : Int) + 1)) rfl rfl rfl (addU (by omega))) ?_
                refine .q rfl (q_move (q := vi .u64 ((t : Int) + 1)) rfl rfl) ?_
                refine .nil ?_
                exact ⟨⟨t + 1, M, mc⟩, ⟨by omega, hm, by have e : q = 8 := (by omega); subst e; exact hS4.turn⟩, rfl, (by show 2 - (t + 1) < 2 - t; omega)⟩
            · skip
              have h9b : decide ((t : Int) < 2) = false := decide_eq_false h9
              refine .cond_f (b := decide ((t : Int) < 2)) rfl h9b ?_
              refine .exit ?_
              refine .reg ?_
              refine .q rfl (q_bin (v := .int .u64 ((r : Int) + 1)) rfl rfl rfl (addU (by omega))) ?_
              refine .q rfl (q_move (q := vi .u64 ((r : Int) + 1)) rfl rfl) ?_
              refine .nil ?_
              exact ⟨⟨r + 1, L, lc⟩, ⟨by omega, hl, hS3.sub, hS3.mono _ hk, by have e : t = 2 := (by omega); subst e; exact hS3.fin (wm_bd W) hsub (by omega) hk hfar⟩, rfl, (by show cntTo R ro 8 - (r + 1) < cntTo R ro 8 - r; omega)⟩
          · skip
            have h8b : decide ((r : Int) < c) = false := decide_eq_false h8
            have hr8 : r = cntTo R ro 8 := by omega
            have hkv : kc = (((List.range 8).map (allF R ro)).map Value.bool).map PV.val := by rw [hkc, far_end hsub (hr8 ▸ hfar), kC_vals]
            have hav : ac = (((List.range 8).map (allF R ro)).map Value.bool).map PV.val := by rw [hA, kC_vals]
            refine .cond_f (b := decide ((r : Int) < c)) rfl h8b ?_
            refine .exit ?_
            refine .seq ?_
            refine .reg ?_
            refine .q rfl (q_load (q := .agg (kc)) rfl rfl (loads_whole (b := 3) (cs := kc) tyAgg23 tySz23 rfl hkc8)) ?_
            refine .q rfl (q_load (q := .agg (ac)) rfl rfl (loads_whole (b := 2) (cs := ac) tyAgg23 tySz23 rfl hac8)) ?_
            refine .q rfl (q_eqAgg (n := 3) (vs := ((List.range 8).map (allF R ro)).map Value.bool) (us := ((List.range 8).map (allF R ro)).map Value.bool) (r := true) rfl eqG23 (by decide) eqT23 tyAgg23 (congrArg PV.agg hkv) (congrArg PV.agg hav) (shaped_bools tyUn23 cells23 cells4 tyUn4 (by simp)) (shaped_bools tyUn23 cells23 cells4 tyUn4 (by simp)) (by simp)) ?_
            refine .q rfl (q_assign (q := vb (true)) rfl rfl) ?_
            refine .nil ?_
            refine .ret ?_
            exact ⟨_, res_one rfl (q := vb (true)) rfl, rfl⟩
        · skip
          refine .cond_t (b := !(allF R ro ((rep - 1)).toNat)) rfl (not_f h7) ?_
          refine .seq ?_
          refine .reg ?_
          refine .q rfl (q_assign (q := vb (true)) rfl rfl) ?_
          refine .nil ?_
          refine .ret ?_
          exact ⟨_, res_one rfl (q := vb (true)) rfl, rfl⟩

end Go.Proofs.Ytnfmpdnmcdbkdaa
