import Derived.Test.YtamfpgmpofncoaaDsAtoDsD3
import Derived.Test.YtamfpgmpofncoaaTm19to26
import Derived.Test.YtamfpgmpofncoaaRows
import Derived.ProofKit
import Derived.Lay
import Derived.LaidMore
import Derived.Stop.Joined
set_option linter.unusedVariables false
set_option linter.unusedSimpArgs false
namespace Go.Proofs.Ytamfpgmpofncoaa
open Go.Ab Go.Tm
open Go.ChangeShapes Go.WideShapes Go.ChangeAt Go.RowKit
theorem own : ownKnob Try.prog.godebug = none := by kernel_rfl
theorem laidOut : laidOutB Try.prog = true := by kernel_rfl
theorem boolTy : Try.prog.underlying 4 = some .bool := by kernel_rfl
theorem plain22 : qb Try.prog 8 22 = true := by kernel_rfl
theorem read22 : Try.prog.readableRec 22 = true /\ 22 < Try.prog.types.size := ⟨by kernel_rfl, of_decide_eq_true (by kernel_rfl)⟩
theorem plain25 : qb Try.prog 8 25 = true := by kernel_rfl
theorem read25 : Try.prog.readableRec 25 = true /\ 25 < Try.prog.types.size := ⟨by kernel_rfl, of_decide_eq_true (by kernel_rfl)⟩
set_option maxRecDepth 100000 in
theorem deviceSure_lifted (os : Os) (started : os.Started) (H : Type) (enc : TypeId × Value -> H) :
  ReturnsInHanded {} Try.checked os 3 .any (Rows.deviceSureSpec.pre6 enc Try.prog Try.f3 Rows.deviceSureRow.domain false) (Rows.deviceSureSpec.post enc Try.prog Try.f3 false true false false) := by
 refine returnsInHanded_of_change (C := Try.checked) own started (by kernel_rfl) Try.func3
  (ChangeSpec.witness6 (enc := enc) (C := Try.checked) false ⟨#[], #[.slice none 0 0, .slice none 0 0, .agg #[.slice none 0 0, .int .i64 0, .int .i64 0]], []⟩ 8 (by kernel_rfl) (by kernel_rfl) (by kernel_rfl) (by kernel_rfl)) ?_
 intro W base args ds gs before hval0 hW hcnd _;have hval : ∀ (j : Nat) t v, Try.f3.params[j]? = some t -> args[j]? = some v -> Value.okWide Try.prog W .any base t v := hval0;have hW' := hW;obtain ⟨p, q, hA0, hV, rfl, hfz, hnd⟩ := hW;have hA : DataW.TrodAll enc Try.prog W 0 (fun _ => true) true Try.f3.params.toList args.toList ds p := hA0
 rw [Try.params3] at hA hval;have hA : DataW.TrodAll enc Try.prog W 0 (fun _ => true) true [22, 22, 25] args.toList ds p := hA
 have hval : ∀ (j : Nat) t v, [22, 22, 25][j]? = some t -> args[j]? = some v -> Value.okWide Try.prog W .any base t v := fun j t v ht hv => hval j t v (by simpa using ht) hv
 have hp : ∀ t, t ∈ [22, 22, 25] -> qb Try.prog 8 t = true := by
  intro t ht;simp only [List.mem_cons, List.not_mem_nil, or_false] at ht;rcases ht with rfl | rfl | rfl
  ·exact plain22
  ·exact plain22
  ·exact plain25
 have hr : ∀ t, t ∈ [22, 22, 25] -> Try.prog.readableRec t = true /\ t < Try.prog.types.size := by
  intro t ht;simp only [List.mem_cons, List.not_mem_nil, or_false] at ht;rcases ht with rfl | rfl | rfl
  ·exact read22
  ·exact read22
  ·exact read25
 have fit := zjs hA hp;obtain ⟨v0, vs0, d0, ds0, p0, q0, hargs, rfl, hpl0, h0, r0⟩ := trodAll_cons hA;obtain ⟨v1, vs1, d1, ds1, p1, q1, rfl, rfl, hpl1, h1, r1⟩ := trodAll_cons r0;obtain ⟨v2, vs2, d2, ds2, p2, q2, rfl, rfl, hpl2, h2, r2⟩ := trodAll_cons r1;obtain ⟨hvs, rfl, hps⟩ := trodAll_nil r2;obtain ⟨rfl, rfl⟩ := trodVars_none hV;have hc : ACalls Try.prog 3 (List.zipWith (z1h Try.prog) [22, 22, 25] [d0, d1, d2]) [] 0 (fun p _ _ => p = .val (.bool true)) :=
  zsb (m := 8) (f := 3) (A := [.d c8, .d c8, .d c3]) (show FnOK Try.prog (z3q 3 [.d c8, .d c8, .d c3]) z43 from zbn) (fun x => rfl) rfl fit (by kernel_rfl) (fun x h g => zre x.1 x.2.1 x.2.2 g.1.1 (fun o ho => ⟨(g.1.2 o ho).2.2.2.1, (g.1.2 o ho).2.2.2.2.2.1.1⟩) g.2.1.1 (fun o ho => ⟨(g.2.1.2 o ho).2.2.2.1, (g.2.1.2 o ho).2.2.2.2.2.1.1⟩) g.2.2.1.1)
 refine (zqa hA hp hval (Nat.zero_le _) trivial hc).mono fun e W' ⟨he, bel⟩ => ?_
 subst he;exact ⟨_, rfl, _, _, _, [], _, [], hW', trodAll_mk1 (shut_bool boolTy _), zfd laidOut bel hA hr, rfl, bel.frame _, fun h => by cases h⟩
theorem deviceSure_holds : Rows.DeviceSureSaid :=
 OpenClaim.holds_of_wide 3 Try.f3 rfl rfl rfl rfl rfl rfl rfl ⟨rfl, rfl, rfl, rfl, rfl⟩ rfl rfl rfl rfl rfl (by kernel_rfl) Try.func3 (by kernel_rfl)
  (of_decide_eq_true (by kernel_rfl)) (by unfold Func.isWrapper; first | (rw [if_pos (by decide +kernel)]; kernel_rfl) | (rw [if_neg (by decide +kernel)]; exact ⟨rfl, rfl⟩))
  (fun os started H enc _ => deviceSure_lifted os started H enc)
end Go.Proofs.Ytamfpgmpofncoaa
