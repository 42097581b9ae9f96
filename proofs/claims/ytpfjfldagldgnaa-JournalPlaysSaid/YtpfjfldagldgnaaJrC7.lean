import Derived.Test.YtpfjfldagldgnaaJrTtoJrS7
import Derived.Test.YtpfjfldagldgnaaTm19to26
import Derived.Test.YtpfjfldagldgnaaRows
import Derived.ProofKit
import Derived.Lay
import Derived.LaidMore
import Derived.Stop.Joined
set_option linter.unusedVariables false
set_option linter.unusedSimpArgs false
namespace Go.Proofs.Ytpfjfldagldgnaa
open Go.Ab Go.Tm
open Go.ChangeShapes Go.WideShapes Go.ChangeAt Go.RowKit
theorem own : ownKnob Try.prog.godebug = none := by kernel_rfl
theorem laidOut : laidOutB Try.prog = true := by kernel_rfl
theorem boolTy : Try.prog.underlying 4 = some .bool := by kernel_rfl
theorem plain3 : vz Try.prog 8 3 = true := by kernel_rfl
theorem read3 : Try.prog.readableRec 3 = true /\ 3 < Try.prog.types.size := ⟨by kernel_rfl, of_decide_eq_true (by kernel_rfl)⟩
theorem plain40 : vz Try.prog 8 40 = true := by kernel_rfl
theorem read40 : Try.prog.readableRec 40 = true /\ 40 < Try.prog.types.size := ⟨by kernel_rfl, of_decide_eq_true (by kernel_rfl)⟩
set_option maxRecDepth 100000 in
theorem journalPlays_lifted (os : Os) (started : os.Started) (H : Type) (enc : TypeId × Value -> H) :
  ReturnsInHanded {} Try.checked os 7 .any (Rows.journalPlaysSpec.pre6 enc Try.prog Try.f7 Rows.journalPlaysRow.domain false) (Rows.journalPlaysSpec.post enc Try.prog Try.f7 false true false false) := by
 refine returnsInHanded_of_change (C := Try.checked) own started (by kernel_rfl) Try.func7
  (ChangeSpec.witness6 (enc := enc) (C := Try.checked) false ⟨#[], #[.int .i64 0, .slice none 0 0], []⟩ 8 (by kernel_rfl) (by kernel_rfl) (by kernel_rfl) (by kernel_rfl)) ?_
 intro W base args ds gs before hval0 hW hcnd _;have hval : ∀ (j : Nat) t v, Try.f7.params[j]? = some t -> args[j]? = some v -> Value.okWide Try.prog W .any base t v := hval0;have hW' := hW;obtain ⟨p, q, hA0, hV, rfl, hfz, hnd⟩ := hW;have hA : DataW.TrodAll enc Try.prog W 0 (fun _ => true) true Try.f7.params.toList args.toList ds p := hA0
 rw [Try.params7] at hA hval;have hA : DataW.TrodAll enc Try.prog W 0 (fun _ => true) true [3, 40] args.toList ds p := hA
 have hval : ∀ (j : Nat) t v, [3, 40][j]? = some t -> args[j]? = some v -> Value.okWide Try.prog W .any base t v := fun j t v ht hv => hval j t v (by simpa using ht) hv
 have hp : ∀ t, t ∈ [3, 40] -> vz Try.prog 8 t = true := by
  intro t ht;simp only [List.mem_cons, List.not_mem_nil, or_false] at ht;rcases ht with rfl | rfl
  ·exact plain3
  ·exact plain40
 have hr : ∀ t, t ∈ [3, 40] -> Try.prog.readableRec t = true /\ t < Try.prog.types.size := by
  intro t ht;simp only [List.mem_cons, List.not_mem_nil, or_false] at ht;rcases ht with rfl | rfl
  ·exact read3
  ·exact read40
 have fit := yhl hA hp;obtain ⟨v0, vs0, d0, ds0, p0, q0, hargs, rfl, hpl0, h0, r0⟩ := trodAll_cons hA;obtain ⟨v1, vs1, d1, ds1, p1, q1, rfl, rfl, hpl1, h1, r1⟩ := trodAll_cons r0;obtain ⟨hvs, rfl, hps⟩ := trodAll_nil r1;obtain ⟨rfl, rfl⟩ := trodVars_none hV;have hc : ACalls Try.prog 7 (List.zipWith (ze5 Try.prog) [3, 40] [d0, d1]) [] 0 (fun p _ _ => p = .val (.bool true)) :=
  ysx (m := 8) (f := 7) (A := [.d (.int .i64), .d c11]) (show FnOK Try.prog (zjk 7 [.d (.int .i64), .d c11]) zi1 from zy4) (fun x => rfl) rfl fit (by kernel_rfl) (fun x h g => yo8 x.1 x.2 (fun o ho y hy b hb => (h.2 o ho).2.1 y hy b hb) g.2.1 (fun o ho => ⟨(g.2.2 o ho).2.1.1, (g.2.2 o ho).2.2.2.1.1, fun y hy => ((g.2.2 o ho).2.1.2 y hy).1⟩))
 refine (yq6 hA hp hval (Nat.zero_le _) trivial hc).mono fun e W' ⟨he, bel⟩ => ?_
 subst he;exact ⟨_, rfl, _, _, _, [], _, [], hW', trodAll_mk1 (shut_bool boolTy _), yan laidOut bel hA hr, rfl, bel.frame _, fun h => by cases h⟩
theorem journalPlays_holds : Rows.JournalPlaysSaid :=
 OpenClaim.holds_of_wide 7 Try.f7 rfl rfl rfl rfl rfl rfl rfl ⟨rfl, rfl, rfl, rfl, rfl⟩ rfl rfl rfl rfl rfl (by kernel_rfl) Try.func7 (by kernel_rfl)
  (of_decide_eq_true (by kernel_rfl)) (by unfold Func.isWrapper; first | (rw [if_pos (by decide +kernel)]; kernel_rfl) | (rw [if_neg (by decide +kernel)]; exact ⟨rfl, rfl⟩))
  (fun os started H enc _ => journalPlays_lifted os started H enc)
end Go.Proofs.Ytpfjfldagldgnaa
