import Derived.Test.YtgpmclpgcmgajaaDoorPaHtoPaQ7
import Derived.Test.YtgpmclpgcmgajaaDoorTm21to25
import Derived.Test.YtgpmclpgcmgajaaDoorTie
import Derived.Test.YtgpmclpgcmgajaaDoorCards
import Derived.ProofKit
import Derived.Lay
import Derived.LaidMore
import Derived.Stop.Joined
import Derived.SevenTiedAt
set_option linter.unusedVariables false
set_option linter.unusedSimpArgs false
namespace Go.Proofs.YtgpmclpgcmgajaaDoor
open Go.Ab Go.Tm
open Go.ChangeShapes Go.WideShapes Go.ChangeAt Go.RowKit
theorem own : ownKnob Tryd.prog.godebug = none := by kernel_rfl
theorem laidOut : laidOutB Tryd.prog = true := by kernel_rfl
theorem boolTy : Tryd.prog.underlying 4 = some .bool := by kernel_rfl
theorem plain9 : z1r Tryd.prog 8 9 = true := by kernel_rfl
theorem read9 : Tryd.prog.readableRec 9 = true ∧ 9 < Tryd.prog.types.size := ⟨by kernel_rfl, of_decide_eq_true (by kernel_rfl)⟩
theorem plain38 : z1r Tryd.prog 8 38 = true := by kernel_rfl
theorem read38 : Tryd.prog.readableRec 38 = true ∧ 38 < Tryd.prog.types.size := ⟨by kernel_rfl, of_decide_eq_true (by kernel_rfl)⟩
set_option maxRecDepth 100000 in
theorem pathTags_lifted (os : Os) (started : os.Started) (H : Type) (enc : TypeId × Value → H) :
   ReturnsInHanded {} Tryd.checked os 7 .any (fun w args => (Rows.pathTagsSpec.pre enc Tryd.prog Tryd.f7 [] false w args ∧ laidMetH Tryd.prog Rows.pathTagsRow.laid w) ∧ sizedMet enc Tryd.prog Tryd.f7 (OpenSpec.ofChange Rows.pathTagsSpec) false w args)
     (Rows.pathTagsSpec.post enc Tryd.prog Tryd.f7 false true false false) := by
 refine returnsInHanded_of_change_and (C := Tryd.checked) (X := fun w _ => laidMetH Tryd.prog Rows.pathTagsRow.laid w) (fun _ _ _ hh h => h.of_heap hh) own started (by kernel_rfl) Tryd.func7
   (ChangeSpec.witness_shaped (enc := enc) (C := Tryd.checked) (os := os) (X := fun w _ => laidMetH Tryd.prog Rows.pathTagsRow.laid w) false (World.laidAll Tryd.prog os Rows.pathTagsRow.laid) #[.string ByteArray.empty, .agg #[.int .i64 0, .int .u32 0], .agg #[.int .i64 0, .int .u32 0]] 8 (World.laidAll_os _ _ _)
     (World.shaped_of_ZipB (by kernel_rfl) (by kernel_rfl)) (by kernel_rfl) (by kernel_rfl) (by kernel_rfl)
     (by rw [MakeChecks.laidMetH_plain _ _ _ (by kernel_rfl)]; exact laidMet_laidAll _ (by kernel_rfl) (by kernel_rfl))) ?_
 intro W base args ds gs before hval0 hW _ _ hL _
 have hval : ∀ (j : Nat) t v, Tryd.f7.params[j]? = some t → args[j]? = some v → Value.okWide Tryd.prog W .any base t v := hval0
 have hW' := hW
 obtain ⟨p, q, hA0, hV, rfl, hfz, hnd⟩ := hW
 have hA : DataW.TrodAll enc Tryd.prog W 0 (fun _ => true) true Tryd.f7.params.toList args.toList ds p := hA0
 rw [Tryd.params7] at hA hval
 have hA : DataW.TrodAll enc Tryd.prog W 0 (fun _ => true) true [9, 38, 38] args.toList ds p := hA
 have hval : ∀ (j : Nat) t v, [9, 38, 38][j]? = some t → args[j]? = some v → Value.okWide Tryd.prog W .any base t v := fun j t v ht hv => hval j t v (by simpa using ht) hv
 have hp : ∀ t, t ∈ [9, 38, 38] → z1r Tryd.prog 8 t = true := by
   intro t ht
   simp only [List.mem_cons, List.not_mem_nil, or_false] at ht
   rcases ht with rfl | rfl | rfl
   · exact plain9
   · exact plain38
   · exact plain38
 have hr : ∀ t, t ∈ [9, 38, 38] → Tryd.prog.readableRec t = true ∧ t < Tryd.prog.types.size := by
   intro t ht
   simp only [List.mem_cons, List.not_mem_nil, or_false] at ht
   rcases ht with rfl | rfl | rfl
   · exact read9
   · exact read38
   · exact read38
 have fit := zo0 hA hp
 obtain ⟨v0, vs0, d0, ds0, p0, q0, hargs, rfl, hpl0, h0, r0⟩ := trodAll_cons hA
 obtain ⟨v1, vs1, d1, ds1, p1, q1, rfl, rfl, hpl1, h1, r1⟩ := trodAll_cons r0
 obtain ⟨v2, vs2, d2, ds2, p2, q2, rfl, rfl, hpl2, h2, r2⟩ := trodAll_cons r1
 obtain ⟨hvs, rfl, hps⟩ := trodAll_nil r2
 obtain ⟨rfl, rfl⟩ := trodVars_none hV
 have hc : ACalls Tryd.prog 7 (List.zipWith (argPV Tryd.prog) [9, 38, 38] [d0, d1, d2]) [] 0 (fun p _ _ => p = .val (.bool true)) :=
   zuh (m := 8) (f := 7) (A := [.d .str, .d c0, .d c0]) (show FnOK Tryd.prog (z8x 7 [.d .str, .d c0, .d c0]) zay from zhd) (fun x => rfl) rfl fit (by kernel_rfl) (fun x h g => zrz x.1 x.2.1 x.2.2 h.1 g.1 h.2.1.2 h.2.2.2)
 refine (zsc hA hp hval (zpv hL).1 (zpv hL).2 hc).mono fun e W' ⟨he, bel⟩ => ?_
 subst he
 exact ⟨_, rfl, _, _, _, [], _, [], hW', trodAll_mk1 (shut_bool boolTy _), zk6 laidOut bel hA hr, rfl, bel.frame _, fun h => by cases h⟩
theorem pathTags_holds : Rows.PathTagsSaid :=
 OpenClaim.holds_of_wide 7 Tryd.f7 rfl rfl rfl rfl rfl rfl rfl ⟨rfl, rfl, rfl, rfl, rfl⟩ rfl rfl rfl rfl rfl (by kernel_rfl) Tryd.func7 (by kernel_rfl)
   (of_decide_eq_true (by kernel_rfl)) (by unfold Func.isWrapper; first | (rw [if_pos (by decide +kernel)]; kernel_rfl) | (rw [if_neg (by decide +kernel)]; exact ⟨rfl, rfl⟩))
   (fun os started H enc _ => pathTags_lifted os started H enc)
theorem pathTags_card : Rows.PathTagsCardSaid :=
 Claim7.holds_tied_plain_at .later [] [.data, .data, .data, .data, .sentinel, .sentinel, .pinned] true (true, "9eab08857433f343511c7261529b31fa33b90752865a28afac9284059a8ec9c8") true pathTags_holds (fun _ h => by cases h) (by kernel_rfl) (fun _ h => by cases h) pathTags_row_tie rfl ⟨rfl, rfl⟩ (by kernel_rfl) rfl
   (fun f fn hf hfn => by
     obtain rfl : f = 7 := Option.some.inj ((show Tryd.prog.funcNamed "wardship/wardshiplaw09.PathTags" = some 7 by kernel_rfl).symm.trans hf) |>.symm
     obtain rfl : fn = Tryd.f7 := (Option.some.inj (Tryd.func7.symm.trans hfn)).symm
     exact ⟨by kernel_rfl, fun j t ht => by
       rw [Tryd.params7] at ht
       have hm : t ∈ [9, 38, 38] := by simpa using Array.mem_of_getElem? ht
       have hall : ([9, 38, 38].all fun u => !Tryd.prog.wantsStandIn u) = true := by kernel_rfl
       exact (show Tryd.prog.wantsStandIn t = false by simpa using List.all_eq_true.1 hall t hm)⟩)
   (by kernel_rfl)
end Go.Proofs.YtgpmclpgcmgajaaDoor