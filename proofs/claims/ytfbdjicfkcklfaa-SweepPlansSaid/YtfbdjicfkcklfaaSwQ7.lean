import Derived.Test.YtfbdjicfkcklfaaSwP7
import Derived.Test.YtfbdjicfkcklfaaTm21to25
import Derived.Test.YtfbdjicfkcklfaaRows
import Derived.ProofKit
import Derived.Lay
import Derived.LaidMore
import Derived.Stop.Joined
set_option linter.unusedVariables false
set_option linter.unusedSimpArgs false
namespace Go.Proofs.Ytfbdjicfkcklfaa
open Go.Ab Go.Tm
open Go.ChangeShapes Go.WideShapes Go.ChangeAt Go.RowKit
theorem own : ownKnob Try.prog.godebug = none := by kernel_rfl
theorem laidOut : laidOutB Try.prog = true := by kernel_rfl
theorem boolTy : Try.prog.underlying 4 = some .bool := by kernel_rfl
theorem plain31 : z7n Try.prog 8 31 = true := by kernel_rfl
theorem read31 : Try.prog.readableRec 31 = true ∧ 31 < Try.prog.types.size := ⟨by kernel_rfl, of_decide_eq_true (by kernel_rfl)⟩
theorem plain55 : z7n Try.prog 8 55 = true := by kernel_rfl
theorem read55 : Try.prog.readableRec 55 = true ∧ 55 < Try.prog.types.size := ⟨by kernel_rfl, of_decide_eq_true (by kernel_rfl)⟩
set_option maxRecDepth 100000 in
theorem sweepPlans_lifted (os : Os) (started : os.Started) (H : Type) (enc : TypeId × Value → H) :
   ReturnsInHanded {} Try.checked os 7 .any (Rows.sweepPlansSpec.pre6 enc Try.prog Try.f7 Rows.sweepPlansRow.domain false) (Rows.sweepPlansSpec.post enc Try.prog Try.f7 false true false false) := by
 refine returnsInHanded_of_change (C := Try.checked) own started (by kernel_rfl) Try.func7
   (ChangeSpec.witness6 (enc := enc) (C := Try.checked) false ⟨#[], #[.agg #[.int .u32 0, .int .u32 0, .int .u32 0, .int .u32 0, .int .u32 0, .int .u32 0, .int .u32 0, .int .u32 0, .int .u32 0, .int .u32 0, .int .u32 0, .int .u32 0, .int .u32 0, .int .u32 0, .int .u32 0, .int .u32 0, .int .u32 0, .int .u32 0, .int .u32 0, .int .u32 0, .int .u32 0, .int .u32 0, .int .u32 0, .int .u32 0, .int .u32 0, .int .u32 0, .int .u32 0, .int .u32 0, .int .u32 0, .int .u32 0, .int .u32 0, .int .u32 0, .int .u32 0, .int .u32 0, .int .u32 0, .int .u32 0, .int .u32 0, .int .u32 0, .int .u32 0, .int .u32 0, .int .u32 0, .int .u32 0, .int .u32 0, .int .u32 0, .int .u32 0, .int .u32 0, .int .u32 0, .int .u32 0, .int .u32 0, .int .u32 0, .int .u32 0, .int .u32 0, .int .u32 0, .int .u32 0, .int .u32 0, .int .u32 0, .int .u32 0, .int .u32 0, .int .u32 0, .int .u32 0, .int .u32 0, .int .u32 0, .int .u32 0, .int .u32 0], .agg #[.int .u32 0, .int .u32 0, .int .u32 0, .int .u32 0, .int .u32 0, .int .u32 0, .int .u32 0, .int .u32 0, .int .u32 0, .int .u32 0, .int .u32 0, .int .u32 0, .int .u32 0, .int .u32 0, .int .u32 0, .int .u32 0, .int .u32 0, .int .u32 0, .int .u32 0, .int .u32 0, .int .u32 0, .int .u32 0, .int .u32 0, .int .u32 0, .int .u32 0, .int .u32 0, .int .u32 0, .int .u32 0, .int .u32 0, .int .u32 0, .int .u32 0, .int .u32 0, .int .u32 0, .int .u32 0, .int .u32 0, .int .u32 0, .int .u32 0, .int .u32 0, .int .u32 0, .int .u32 0, .int .u32 0, .int .u32 0, .int .u32 0, .int .u32 0, .int .u32 0, .int .u32 0, .int .u32 0, .int .u32 0, .int .u32 0, .int .u32 0, .int .u32 0, .int .u32 0, .int .u32 0, .int .u32 0, .int .u32 0, .int .u32 0, .int .u32 0, .int .u32 0, .int .u32 0, .int .u32 0, .int .u32 0, .int .u32 0, .int .u32 0, .int .u32 0], .agg #[.bool false, .bool false, .bool false, .bool false, .bool false, .bool false, .bool false, .bool false]], []⟩ 8 (by kernel_rfl) (by kernel_rfl) (by kernel_rfl) (by kernel_rfl)) ?_
 intro W base args ds gs before hval0 hW hcnd _
 have hval : ∀ (j : Nat) t v, Try.f7.params[j]? = some t → args[j]? = some v → Value.okWide Try.prog W .any base t v := hval0
 have hW' := hW
 obtain ⟨p, q, hA0, hV, rfl, hfz, hnd⟩ := hW
 have hA : DataW.TrodAll enc Try.prog W 0 (fun _ => true) true Try.f7.params.toList args.toList ds p := hA0
 rw [Try.params7] at hA hval
 have hA : DataW.TrodAll enc Try.prog W 0 (fun _ => true) true [55, 55, 31] args.toList ds p := hA
 have hval : ∀ (j : Nat) t v, [55, 55, 31][j]? = some t → args[j]? = some v → Value.okWide Try.prog W .any base t v := fun j t v ht hv => hval j t v (by simpa using ht) hv
 have hp : ∀ t, t ∈ [55, 55, 31] → z7n Try.prog 8 t = true := by
   intro t ht
   simp only [List.mem_cons, List.not_mem_nil, or_false] at ht
   rcases ht with rfl | rfl | rfl
   · exact plain55
   · exact plain55
   · exact plain31
 have hr : ∀ t, t ∈ [55, 55, 31] → Try.prog.readableRec t = true ∧ t < Try.prog.types.size := by
   intro t ht
   simp only [List.mem_cons, List.not_mem_nil, or_false] at ht
   rcases ht with rfl | rfl | rfl
   · exact read55
   · exact read55
   · exact read31
 have fit := z1hb hA hp
 obtain ⟨v0, vs0, d0, ds0, p0, q0, hargs, rfl, hpl0, h0, r0⟩ := trodAll_cons hA
 obtain ⟨v1, vs1, d1, ds1, p1, q1, rfl, rfl, hpl1, h1, r1⟩ := trodAll_cons r0
 obtain ⟨v2, vs2, d2, ds2, p2, q2, rfl, rfl, hpl2, h2, r2⟩ := trodAll_cons r1
 obtain ⟨hvs, rfl, hps⟩ := trodAll_nil r2
 obtain ⟨rfl, rfl⟩ := trodVars_none hV
 have hc : ACalls Try.prog 7 (List.zipWith (argPV Try.prog) [55, 55, 31] [d0, d1, d2]) [] 0 (fun p _ _ => p = .val (.bool true)) :=
   z1nj (m := 8) (f := 7) (A := [.d c19, .d c19, .d (.arr 8 .bool)]) (show FnOK Try.prog (zmw 7 [.d c19, .d c19, .d (.arr 8 .bool)]) znx from z11l) (fun x => rfl) rfl fit (by kernel_rfl) (fun x h g => z1kb x.1 x.2.1 x.2.2 ⟨h.1.1, fun r hr => (h.1.2 r hr).1⟩ ⟨h.2.1.1, fun r hr => (h.2.1.2 r hr).1⟩ h.2.2.1)
 refine (z1lx hA hp hval hc).mono fun e W' ⟨he, bel⟩ => ?_
 subst he
 exact ⟨_, rfl, _, _, _, [], _, [], hW', trodAll_mk1 (shut_bool boolTy _), z1bh laidOut bel hA hr, rfl, bel.frame _, fun h => by cases h⟩
theorem sweepPlans_holds : Rows.SweepPlansSaid :=
 OpenClaim.holds_of_wide 7 Try.f7 rfl rfl rfl rfl rfl rfl rfl ⟨rfl, rfl, rfl, rfl, rfl⟩ rfl rfl rfl rfl rfl (by kernel_rfl) Try.func7 (by kernel_rfl)
   (of_decide_eq_true (by kernel_rfl)) (by unfold Func.isWrapper; first | (rw [if_pos (by decide +kernel)]; kernel_rfl) | (rw [if_neg (by decide +kernel)]; exact ⟨rfl, rfl⟩))
   (fun os started H enc _ => sweepPlans_lifted os started H enc)
end Go.Proofs.Ytfbdjicfkcklfaa