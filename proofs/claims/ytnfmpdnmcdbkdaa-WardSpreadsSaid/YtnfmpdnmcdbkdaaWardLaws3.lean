/- Layer 20: the laws WardSpreads, stated as given and proved from their walks. -/
import Derived.Test.YtnfmpdnmcdbkdaaRows
import Derived.Test.YtnfmpdnmcdbkdaaWardArgs
import Derived.Test.YtnfmpdnmcdbkdaaWardWalk
import Derived.WalkKit
import Derived.ProofKit
import Derived.OpenShut
import Derived.ChangeOld
import Derived.Below
namespace Go.Proofs.Ytnfmpdnmcdbkdaa
open Go.Ab
open Go.ChangeShapes Go.WideShapes Go.ChangeAt Go.RowKit
set_option linter.unusedVariables false
set_option linter.unusedSimpArgs false

theorem own : ownKnob Try.prog.godebug = none := by kernel_rfl
theorem laidOut : laidOutB Try.prog = true := by kernel_rfl
theorem boolTy : Try.prog.underlying 4 = some .bool := by kernel_rfl
theorem plain25 : plainTy Try.prog 8 25 = true := by kernel_rfl
theorem read25 : Try.prog.readableRec 25 = true ∧ 25 < Try.prog.types.size := ⟨by kernel_rfl, of_decide_eq_true (by kernel_rfl)⟩
theorem plain3 : plainTy Try.prog 8 3 = true := by kernel_rfl
theorem read3 : Try.prog.readableRec 3 = true ∧ 3 < Try.prog.types.size := ⟨by kernel_rfl, of_decide_eq_true (by kernel_rfl)⟩
theorem plain40 : plainTy Try.prog 8 40 = true := by kernel_rfl
theorem read40 : Try.prog.readableRec 40 = true ∧ 40 < Try.prog.types.size := ⟨by kernel_rfl, of_decide_eq_true (by kernel_rfl)⟩

theorem aggI : tyAgg Try.prog 3 = some false := by kernel_rfl
theorem aggU : tyAgg Try.prog 40 = some false := by kernel_rfl
theorem aggPl : tyAgg Try.prog 25 = some true := by kernel_rfl
theorem unI : Try.prog.underlying 3 = some (.int .i64) := by kernel_rfl
theorem unU : Try.prog.underlying 40 = some (.int .u64) := by kernel_rfl
theorem unA : Try.prog.underlying 22 = some (.array 8 3) := by kernel_rfl
theorem unB : Try.prog.underlying 23 = some (.array 8 4) := by kernel_rfl
theorem unPl : ∃ fs, Try.prog.underlying 25 = some (.struct fs) ∧ fs.toList.map (·.type) = [22, 23, 23, 23] := ⟨_, Try.underlying25, rfl⟩
theorem place {H : Type} {n : Nat} {d : DataW H} (h : Fits Try.prog n 25 d) : ∃ W R ro up, IsPl (cellsD d) W R ro up := by
  obtain ⟨fs, h1, h2⟩ := unPl
  exact place_of h1 h2 unA unB unB unB unI boolTy h
theorem wfU {x : Int} (h : (Lit.int .u64 x).wf = true) : 0 ≤ x := by
  have e : IntKind.u64.min ≤ x ∧ x ≤ IntKind.u64.max := by simpa [Lit.wf] using h
  have e2 : IntKind.u64.min = 0 := rfl
  omega

set_option maxRecDepth 100000 in
theorem wardSpreads_lifted (os : Os) (started : os.Started) (H : Type) (enc : TypeId × Value → H) :
    ReturnsInHanded {} Try.checked os 6 .any (Rows.wardSpreadsSpec.pre6 enc Try.prog Try.f6 Rows.wardSpreadsRow.domain false) (Rows.wardSpreadsSpec.post enc Try.prog Try.f6 false true false false) := by
  refine returnsInHanded_of_change (C := Try.checked) own started (by kernel_rfl) Try.func6
    (ChangeSpec.witness6 (enc := enc) (C := Try.checked) false ⟨#[], #[.agg #[.int .i64 0, .int .i64 0, .int .i64 0, .int .i64 0, .int .i64 0, .int .i64 0, .int .i64 0, .int .i64 0, .bool false, .bool false, .bool false, .bool false, .bool false, .bool false, .bool false, .bool false, .bool false, .bool false, .bool false, .bool false, .bool false, .bool false, .bool false, .bool false, .bool false, .bool false, .bool false, .bool false, .bool false, .bool false, .bool false, .bool false], .int .i64 0, .int .u64 0], []⟩ 8 (by kernel_rfl) (by kernel_rfl) (by kernel_rfl) (by kernel_rfl)) ?_
  intro W base args ds gs before hval0 hW hcnd _
  have hval : ∀ (j : Nat) t v, Try.f6.params[j]? = some t → args[j]? = some v → Value.okWide Try.prog W .any base t v := hval0
  have hW' := hW
  obtain ⟨p, q, hA0, hV, rfl, hfz, hnd⟩ := hW
  have hA : DataW.TrodAll enc Try.prog W 0 (fun _ => true) true Try.f6.params.toList args.toList ds p := hA0
  rw [Try.params6] at hA hval
  have hA : DataW.TrodAll enc Try.prog W 0 (fun _ => true) true [25, 3, 40] args.toList ds p := hA
  have hval : ∀ (j : Nat) t v, [25, 3, 40][j]? = some t → args[j]? = some v → Value.okWide Try.prog W .any base t v := fun j t v ht hv => hval j t v (by simpa using ht) hv
  have hp : ∀ t, t ∈ [25, 3, 40] → plainTy Try.prog 8 t = true := by
    intro t ht
    simp only [List.mem_cons, List.not_mem_nil, or_false] at ht
    rcases ht with rfl | rfl | rfl
    · exact plain25
    · exact plain3
    · exact plain40
  have hr : ∀ t, t ∈ [25, 3, 40] → Try.prog.readableRec t = true ∧ t < Try.prog.types.size := by
    intro t ht
    simp only [List.mem_cons, List.not_mem_nil, or_false] at ht
    rcases ht with rfl | rfl | rfl
    · exact read25
    · exact read3
    · exact read40
  have fit := args_fit hA hp
  obtain ⟨v0, vs0, d0, ds0, p0, q0, hargs, rfl, hpl0, h0, r0⟩ := trodAll_cons hA
  obtain ⟨v1, vs1, d1, ds1, p1, q1, rfl, rfl, hpl1, h1, r1⟩ := trodAll_cons r0
  obtain ⟨v2, vs2, d2, ds2, p2, q2, rfl, rfl, hpl2, h2, r2⟩ := trodAll_cons r1
  obtain ⟨hvs, rfl, hps⟩ := trodAll_nil r2
  obtain ⟨rfl, rfl⟩ := trodVars_none hV
  obtain ⟨W0, R0, ro0, up0, hP⟩ := place (fit 0 25 d0 rfl rfl)
  obtain ⟨a1, rfl, w1⟩ := fits_int unI (fit 1 3 d1 rfl rfl)
  obtain ⟨a2, rfl, w2⟩ := fits_int unU (fit 2 40 d2 rfl rfl)
  have hc : ACalls Try.prog 6 (List.zipWith (argPV Try.prog) [25, 3, 40] [d0, .lit (.int .i64 a1), .lit (.int .u64 a2)]) [] 0 (fun p _ _ => p = .val (.bool true)) := by
    simp only [List.zipWith_cons_cons, List.zipWith_nil_right, List.zipWith_nil_left]
    rw [argPV_agg aggPl, argPV_int aggI, argPV_int aggU]
    exact wardSpreads_calls hP a1 a2 (wfU w2) 0
  refine (law_calls hA hp hval hc).mono fun e W' ⟨he, bel⟩ => ?_
  subst he
  exact ⟨_, rfl, _, _, _, [], _, [], hW', trodAll_mk1 (shut_bool boolTy _), args_again laidOut bel hA hr, rfl, bel.frame _, fun h => by cases h⟩

theorem wardSpreads_holds : Rows.WardSpreadsSaid :=
  OpenClaim.holds_of_wide 6 Try.f6 rfl rfl rfl rfl rfl rfl rfl ⟨rfl, rfl, rfl, rfl, rfl⟩ rfl rfl rfl rfl rfl (by kernel_rfl) Try.func6 (by kernel_rfl)
    (of_decide_eq_true (by kernel_rfl)) (by unfold Func.isWrapper; first | (rw [if_pos (by decide +kernel)]; kernel_rfl) | (rw [if_neg (by decide +kernel)]; exact ⟨rfl, rfl⟩))
    (fun os started H enc _ => wardSpreads_lifted os started H enc)

end Go.Proofs.Ytnfmpdnmcdbkdaa
