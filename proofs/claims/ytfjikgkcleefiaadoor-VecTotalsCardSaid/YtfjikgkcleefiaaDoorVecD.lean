/- The laws of vectors: rows and cards; printed by veclaws.py. -/
import Derived.Test.YtfjikgkcleefiaaDoorVecC
import Derived.Test.YtfjikgkcleefiaaDoorTm13
import Derived.Test.YtfjikgkcleefiaaDoorTie
import Derived.Test.YtfjikgkcleefiaaDoorCards
import Derived.ProofKit
import Derived.Lay
import Derived.LaidMore
import Derived.Stop.Joined
import Derived.SevenTiedAt
set_option linter.unusedVariables false
set_option linter.unusedSimpArgs false
namespace Go.Proofs.YtfjikgkcleefiaaDoor
open Go.Ab Go.Tm
open Go.ChangeShapes Go.WideShapes Go.ChangeAt Go.RowKit

theorem own : ownKnob Tryd.prog.godebug = none := by kernel_rfl
theorem laidOut : laidOutB Tryd.prog = true := by kernel_rfl
theorem boolTy : Tryd.prog.underlying 4 = some .bool := by kernel_rfl
theorem plain24 : plainTy Tryd.prog 8 24 = true := by kernel_rfl
theorem read24 : Tryd.prog.readableRec 24 = true ∧ 24 < Tryd.prog.types.size := ⟨by kernel_rfl, of_decide_eq_true (by kernel_rfl)⟩
theorem plain31 : plainTy Tryd.prog 8 31 = true := by kernel_rfl
theorem read31 : Tryd.prog.readableRec 31 = true ∧ 31 < Tryd.prog.types.size := ⟨by kernel_rfl, of_decide_eq_true (by kernel_rfl)⟩

set_option maxRecDepth 100000 in
theorem vecTotals_lifted (os : Os) (started : os.Started) (H : Type) (enc : TypeId × Value → H) :
    ReturnsInHanded {} Tryd.checked os 8 .any (fun w args => (Rows.vecTotalsSpec.pre enc Tryd.prog Tryd.f8 [] false w args ∧ laidMetH Tryd.prog Rows.vecTotalsRow.laid w) ∧ sizedMet enc Tryd.prog Tryd.f8 (OpenSpec.ofChange Rows.vecTotalsSpec) false w args)
      (Rows.vecTotalsSpec.post enc Tryd.prog Tryd.f8 false true false false) := by
  refine returnsInHanded_of_change_and (C := Tryd.checked) (X := fun w _ => laidMetH Tryd.prog Rows.vecTotalsRow.laid w) (fun _ _ _ hh h => h.of_heap hh) own started (by kernel_rfl) Tryd.func8
    (ChangeSpec.witness_shaped (enc := enc) (C := Tryd.checked) (os := os) (X := fun w _ => laidMetH Tryd.prog Rows.vecTotalsRow.laid w) false (World.laidAll Tryd.prog os Rows.vecTotalsRow.laid) #[.agg #[.int .u32 0, .int .u32 0, .int .u32 0, .int .u32 0, .int .u32 0, .int .u32 0, .int .u32 0, .int .u32 0], .agg #[.int .i64 0, .int .u32 0]] 8 (World.laidAll_os _ _ _)
      (World.shaped_of_ZipB (by kernel_rfl) (by kernel_rfl)) (by kernel_rfl) (by kernel_rfl) (by kernel_rfl)
      (by rw [MakeChecks.laidMetH_plain _ _ _ (by kernel_rfl)]; exact laidMet_laidAll _ (by kernel_rfl) (by kernel_rfl))) ?_
  intro W base args ds gs before hval0 hW _ _ hL _
  have hval : ∀ (j : Nat) t v, Tryd.f8.params[j]? = some t → args[j]? = some v → Value.okWide Tryd.prog W .any base t v := hval0
  have hW' := hW
  obtain ⟨p, q, hA0, hV, rfl, hfz, hnd⟩ := hW
  have hA : DataW.TrodAll enc Tryd.prog W 0 (fun _ => true) true Tryd.f8.params.toList args.toList ds p := hA0
  rw [Tryd.params8] at hA hval
  have hA : DataW.TrodAll enc Tryd.prog W 0 (fun _ => true) true [24, 31] args.toList ds p := hA
  have hval : ∀ (j : Nat) t v, [24, 31][j]? = some t → args[j]? = some v → Value.okWide Tryd.prog W .any base t v := fun j t v ht hv => hval j t v (by simpa using ht) hv
  have hp : ∀ t, t ∈ [24, 31] → plainTy Tryd.prog 8 t = true := by
    intro t ht
    simp only [List.mem_cons, List.not_mem_nil, or_false] at ht
    rcases ht with rfl | rfl
    · exact plain24
    · exact plain31
  have hr : ∀ t, t ∈ [24, 31] → Tryd.prog.readableRec t = true ∧ t < Tryd.prog.types.size := by
    intro t ht
    simp only [List.mem_cons, List.not_mem_nil, or_false] at ht
    rcases ht with rfl | rfl
    · exact read24
    · exact read31
  have fit := args_fit hA hp
  obtain ⟨v0, vs0, d0, ds0, p0, q0, hargs, rfl, hpl0, h0, r0⟩ := trodAll_cons hA
  obtain ⟨v1, vs1, d1, ds1, p1, q1, rfl, rfl, hpl1, h1, r1⟩ := trodAll_cons r0
  obtain ⟨hvs, rfl, hps⟩ := trodAll_nil r1
  obtain ⟨rfl, rfl⟩ := trodVars_none hV
  have hc : ACalls Tryd.prog 8 (List.zipWith (argPV Tryd.prog) [24, 31] [d0, d1]) [] 0 (fun p _ _ => p = .val (.bool true)) :=
    law_true (m := 8) (l := [c0, c1]) law06_VecTotals_entok rfl fit (by kernel_rfl) (fun x h g => totals_true h.1 x.2)
  refine (law_calls hA hp hval hc).mono fun e W' ⟨he, bel⟩ => ?_
  subst he
  exact ⟨_, rfl, _, _, _, [], _, [], hW', trodAll_mk1 (shut_bool boolTy _), args_again laidOut bel hA hr, rfl, bel.frame _, fun h => by cases h⟩

theorem vecTotals_holds : Rows.VecTotalsSaid :=
  OpenClaim.holds_of_wide 8 Tryd.f8 rfl rfl rfl rfl rfl rfl rfl ⟨rfl, rfl, rfl, rfl, rfl⟩ rfl rfl rfl rfl rfl (by kernel_rfl) Tryd.func8 (by kernel_rfl)
    (of_decide_eq_true (by kernel_rfl)) (by unfold Func.isWrapper; first | (rw [if_pos (by decide +kernel)]; kernel_rfl) | (rw [if_neg (by decide +kernel)]; exact ⟨rfl, rfl⟩))
    (fun os started H enc _ => vecTotals_lifted os started H enc)

theorem vecTotals_card : Rows.VecTotalsCardSaid :=
  Claim7.holds_tied_plain_at .later [] [.data, .data, .data] true (true, "aa405acb485838cca3d9dd00cfc8989e84f7118335ae0d568c3f7b12537d5ca3") true vecTotals_holds (fun _ h => by cases h) (by kernel_rfl) (fun _ h => by cases h) vecTotals_row_tie rfl ⟨rfl, rfl⟩ (by kernel_rfl) rfl
    (fun f fn hf hfn => by
      obtain rfl : f = 8 := Option.some.inj ((show Tryd.prog.funcNamed "wardship/wardshiplaw06.VecTotals" = some 8 by kernel_rfl).symm.trans hf) |>.symm
      obtain rfl : fn = Tryd.f8 := (Option.some.inj (Tryd.func8.symm.trans hfn)).symm
      exact ⟨by kernel_rfl, fun j t ht => by
        rw [Tryd.params8] at ht
        have hm : t ∈ [24, 31] := by simpa using Array.mem_of_getElem? ht
        have hall : ([24, 31].all fun u => !Tryd.prog.wantsStandIn u) = true := by kernel_rfl
        exact (show Tryd.prog.wantsStandIn t = false by simpa using List.all_eq_true.1 hall t hm)⟩)
    (by kernel_rfl)

end Go.Proofs.YtfjikgkcleefiaaDoor
