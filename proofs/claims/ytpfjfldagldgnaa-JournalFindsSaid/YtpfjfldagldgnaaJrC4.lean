import Derived.Test.YtpfjfldagldgnaaJrA4toJrS4
import Derived.Test.YtpfjfldagldgnaaTm21to25
import Derived.Test.YtpfjfldagldgnaaRows
import Derived.ProofKit
import Derived.Lay
import Derived.LaidMore
import Derived.Stop.Joined
set_option linter.unusedVariables false
set_option linter.unusedSimpArgs false
namespace Go.Proofs.Ytpfjfldagldgnaa
open Go.Ab Go.Tm
open Go.ChangeShapes Go.WideShapes Go.ChangeAt Go.RowKit
theorem own : ownKnob Try.prog.godebug = none := by kernel_rfl
theorem laidOut : laidOutB Try.prog = true := by kernel_rfl
theorem boolTy : Try.prog.underlying 4 = some .bool := by kernel_rfl
theorem plain40 : z9b Try.prog 8 40 = true := by kernel_rfl
theorem read40 : Try.prog.readableRec 40 = true ∧ 40 < Try.prog.types.size := ⟨by kernel_rfl, of_decide_eq_true (by kernel_rfl)⟩
set_option maxRecDepth 100000 in
theorem journalFinds_lifted (os : Os) (started : os.Started) (H : Type) (enc : TypeId × Value → H) :
   ReturnsInHanded {} Try.checked os 4 .any (Rows.journalFindsSpec.pre6 enc Try.prog Try.f4 Rows.journalFindsRow.domain false) (Rows.journalFindsSpec.post enc Try.prog Try.f4 false true false false) := by
 refine returnsInHanded_of_change (C := Try.checked) own started (by kernel_rfl) Try.func4
   (ChangeSpec.witness6 (enc := enc) (C := Try.checked) false ⟨#[], #[.slice none 0 0], []⟩ 8 (by kernel_rfl) (by kernel_rfl) (by kernel_rfl) (by kernel_rfl)) ?_
 intro W base args ds gs before hval0 hW hcnd _
 have hval : ∀ (j : Nat) t v, Try.f4.params[j]? = some t → args[j]? = some v → Value.okWide Try.prog W .any base t v := hval0
 have hW' := hW
 obtain ⟨p, q, hA0, hV, rfl, hfz, hnd⟩ := hW
 have hA : DataW.TrodAll enc Try.prog W 0 (fun _ => true) true Try.f4.params.toList args.toList ds p := hA0
 rw [Try.params4] at hA hval
 have hA : DataW.TrodAll enc Try.prog W 0 (fun _ => true) true [40] args.toList ds p := hA
 have hval : ∀ (j : Nat) t v, [40][j]? = some t → args[j]? = some v → Value.okWide Try.prog W .any base t v := fun j t v ht hv => hval j t v (by simpa using ht) hv
 have hp : ∀ t, t ∈ [40] → z9b Try.prog 8 t = true := by
   intro t ht
   simp only [List.mem_cons, List.not_mem_nil, or_false] at ht
   subst ht
   · exact plain40
 have hr : ∀ t, t ∈ [40] → Try.prog.readableRec t = true ∧ t < Try.prog.types.size := by
   intro t ht
   simp only [List.mem_cons, List.not_mem_nil, or_false] at ht
   subst ht
   · exact read40
 have fit := z1gq hA hp
 obtain ⟨v0, vs0, d0, ds0, p0, q0, hargs, rfl, hpl0, h0, r0⟩ := trodAll_cons hA
 obtain ⟨hvs, rfl, hps⟩ := trodAll_nil r0
 obtain ⟨rfl, rfl⟩ := trodVars_none hV
 have hc : ACalls Try.prog 4 (List.zipWith (argPV Try.prog) [40] [d0]) [] 0 (fun p _ _ => p = .val (.bool true)) :=
   z1po (m := 8) (f := 4) (A := [.d c11]) (show FnOK Try.prog (zqb 4 [.d c11]) zp2 from z12d) (fun x => rfl) rfl fit (by kernel_rfl) (fun x h g => z1lj x (fun o ho y hy b hb => (h o ho).2.1 y hy b hb) g.1 (fun o ho => ⟨(g.2 o ho).2.1.1, (g.2 o ho).2.2.2.1.1, fun y hy => ((g.2 o ho).2.1.2 y hy).1⟩))
 refine (z1nt hA hp hval (Nat.zero_le _) trivial hc).mono fun e W' ⟨he, bel⟩ => ?_
 subst he
 exact ⟨_, rfl, _, _, _, [], _, [], hW', trodAll_mk1 (shut_bool boolTy _), z1c6 laidOut bel hA hr, rfl, bel.frame _, fun h => by cases h⟩
theorem journalFinds_holds : Rows.JournalFindsSaid :=
 OpenClaim.holds_of_wide 4 Try.f4 rfl rfl rfl rfl rfl rfl rfl ⟨rfl, rfl, rfl, rfl, rfl⟩ rfl rfl rfl rfl rfl (by kernel_rfl) Try.func4 (by kernel_rfl)
   (of_decide_eq_true (by kernel_rfl)) (by unfold Func.isWrapper; first | (rw [if_pos (by decide +kernel)]; kernel_rfl) | (rw [if_neg (by decide +kernel)]; exact ⟨rfl, rfl⟩))
   (fun os started H enc _ => journalFinds_lifted os started H enc)
end Go.Proofs.Ytpfjfldagldgnaa