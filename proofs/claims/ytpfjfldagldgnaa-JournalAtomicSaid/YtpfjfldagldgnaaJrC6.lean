import Derived.Test.YtpfjfldagldgnaaJrA6toJrS6
import Derived.Test.YtpfjfldagldgnaaTm21to25
import Derived.Test.YtpfjfldagldgnaaRows
import Derived.ProofKit
import Derived.Lay
import Derived.LaidMore
import Derived.Stop.Joined
set_option linter.unusedVariables false
set_option linter.unusedSimpArgs false
namespace Go.Proofs.Ytpfjfldagldgnaa
open Go.Ab Go.Tm
open Go.ChangeShapes Go.WideShapes Go.ChangeAt Go.RowKit
theorem own : ownKnob Try.prog.godebug = none := by kernel_rfl
theorem laidOut : laidOutB Try.prog = true := by kernel_rfl
theorem boolTy : Try.prog.underlying 4 = some .bool := by kernel_rfl
theorem plain28 : z6w Try.prog 8 28 = true := by kernel_rfl
theorem read28 : Try.prog.readableRec 28 = true ∧ 28 < Try.prog.types.size := ⟨by kernel_rfl, of_decide_eq_true (by kernel_rfl)⟩
theorem plain51 : z6w Try.prog 8 51 = true := by kernel_rfl
theorem read51 : Try.prog.readableRec 51 = true ∧ 51 < Try.prog.types.size := ⟨by kernel_rfl, of_decide_eq_true (by kernel_rfl)⟩
set_option maxRecDepth 100000 in
theorem journalAtomic_lifted (os : Os) (started : os.Started) (H : Type) (enc : TypeId × Value → H) :
   ReturnsInHanded {} Try.checked os 6 .any (Rows.journalAtomicSpec.pre6 enc Try.prog Try.f6 Rows.journalAtomicRow.domain false) (Rows.journalAtomicSpec.post enc Try.prog Try.f6 false true false false) := by
 refine returnsInHanded_of_change (C := Try.checked) own started (by kernel_rfl) Try.func6
   (ChangeSpec.witness6 (enc := enc) (C := Try.checked) false ⟨#[], #[.slice none 0 0, .slice none 0 0, .agg #[.bool false, .int .i64 0, .slice none 0 0, .int .i64 0, .int .i64 0]], []⟩ 8 (by kernel_rfl) (by kernel_rfl) (by kernel_rfl) (by kernel_rfl)) ?_
 intro W base args ds gs before hval0 hW hcnd _
 have hval : ∀ (j : Nat) t v, Try.f6.params[j]? = some t → args[j]? = some v → Value.okWide Try.prog W .any base t v := hval0
 have hW' := hW
 obtain ⟨p, q, hA0, hV, rfl, hfz, hnd⟩ := hW
 have hA : DataW.TrodAll enc Try.prog W 0 (fun _ => true) true Try.f6.params.toList args.toList ds p := hA0
 rw [Try.params6] at hA hval
 have hA : DataW.TrodAll enc Try.prog W 0 (fun _ => true) true [28, 28, 51] args.toList ds p := hA
 have hval : ∀ (j : Nat) t v, [28, 28, 51][j]? = some t → args[j]? = some v → Value.okWide Try.prog W .any base t v := fun j t v ht hv => hval j t v (by simpa using ht) hv
 have hp : ∀ t, t ∈ [28, 28, 51] → z6w Try.prog 8 t = true := by
   intro t ht
   simp only [List.mem_cons, List.not_mem_nil, or_false] at ht
   rcases ht with rfl | rfl | rfl
   · exact plain28
   · exact plain28
   · exact plain51
 have hr : ∀ t, t ∈ [28, 28, 51] → Try.prog.readableRec t = true ∧ t < Try.prog.types.size := by
   intro t ht
   simp only [List.mem_cons, List.not_mem_nil, or_false] at ht
   rcases ht with rfl | rfl | rfl
   · exact read28
   · exact read28
   · exact read51
 have fit := z1hk hA hp
 obtain ⟨v0, vs0, d0, ds0, p0, q0, hargs, rfl, hpl0, h0, r0⟩ := trodAll_cons hA
 obtain ⟨v1, vs1, d1, ds1, p1, q1, rfl, rfl, hpl1, h1, r1⟩ := trodAll_cons r0
 obtain ⟨v2, vs2, d2, ds2, p2, q2, rfl, rfl, hpl2, h2, r2⟩ := trodAll_cons r1
 obtain ⟨hvs, rfl, hps⟩ := trodAll_nil r2
 obtain ⟨rfl, rfl⟩ := trodVars_none hV
 have hc : ACalls Try.prog 6 (List.zipWith (argPV Try.prog) [28, 28, 51] [d0, d1, d2]) [] 0 (fun p _ _ => p = .val (.bool true)) :=
   z1ot (m := 8) (f := 6) (A := [.d c5, .d c5, .d c14]) (show FnOK Try.prog (zoh 6 [.d c5, .d c5, .d c14]) zm4 from zyv) (fun x => rfl) rfl fit (by kernel_rfl) (fun x h g => z1ih x.1 x.2.1 x.2.2 ⟨fun y hy b hb => h.1 y hy b hb, fun y hy b hb => h.2.1 y hy b hb⟩ ⟨⟨g.1.1, fun y hy => (g.1.2 y hy).1⟩, ⟨g.2.1.1, fun y hy => (g.2.1.2 y hy).1⟩, g.2.2.2.2.1.1⟩)
 refine (z1mw hA hp hval (Nat.zero_le _) trivial hc).mono fun e W' ⟨he, bel⟩ => ?_
 subst he
 exact ⟨_, rfl, _, _, _, [], _, [], hW', trodAll_mk1 (shut_bool boolTy _), z1bn laidOut bel hA hr, rfl, bel.frame _, fun h => by cases h⟩
theorem journalAtomic_holds : Rows.JournalAtomicSaid :=
 OpenClaim.holds_of_wide 6 Try.f6 rfl rfl rfl rfl rfl rfl rfl ⟨rfl, rfl, rfl, rfl, rfl⟩ rfl rfl rfl rfl rfl (by kernel_rfl) Try.func6 (by kernel_rfl)
   (of_decide_eq_true (by kernel_rfl)) (by unfold Func.isWrapper; first | (rw [if_pos (by decide +kernel)]; kernel_rfl) | (rw [if_neg (by decide +kernel)]; exact ⟨rfl, rfl⟩))
   (fun os started H enc _ => journalAtomic_lifted os started H enc)
end Go.Proofs.Ytpfjfldagldgnaa