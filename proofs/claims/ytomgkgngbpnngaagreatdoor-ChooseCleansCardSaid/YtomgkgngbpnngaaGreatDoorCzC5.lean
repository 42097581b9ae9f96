import Derived.Test.YtomgkgngbpnngaaGreatDoorCzNtoCzQ5
import Derived.Test.YtomgkgngbpnngaaGreatDoorCzJtoCzA5
import Derived.Test.YtomgkgngbpnngaaGreatDoorTm21to25
import Derived.Test.YtomgkgngbpnngaaGreatDoorTie
import Derived.Test.YtomgkgngbpnngaaGreatDoorCards
import Derived.ProofKit
import Derived.Lay
import Derived.LaidMore
import Derived.Stop.Joined
import Derived.SevenTiedAt
set_option linter.unusedVariables false
set_option linter.unusedSimpArgs false
namespace Go.Proofs.YtomgkgngbpnngaaGreatDoor
open Go.Ab Go.Tm
open Go.ChangeShapes Go.WideShapes Go.ChangeAt Go.RowKit
theorem own : ownKnob Tryz.prog.godebug = none := by kernel_rfl
theorem laidOut : laidOutB Tryz.prog = true := by kernel_rfl
theorem boolTy : Tryz.prog.underlying 4 = some .bool := by kernel_rfl
theorem plain22 : z5i Tryz.prog 8 22 = true := by kernel_rfl
theorem read22 : Tryz.prog.readableRec 22 = true ∧ 22 < Tryz.prog.types.size := ⟨by kernel_rfl, of_decide_eq_true (by kernel_rfl)⟩
set_option maxRecDepth 100000 in
theorem chooseCleans_lifted (os : Os) (started : os.Started) (H : Type) (enc : TypeId × Value → H) :
   ReturnsInHanded {} Tryz.checked os 5 .any (fun w args => (Rows.chooseCleansSpec.pre enc Tryz.prog Tryz.f5 [] false w args ∧ laidMetH Tryz.prog Rows.chooseCleansRow.laid w) ∧ sizedMet enc Tryz.prog Tryz.f5 (OpenSpec.ofChange Rows.chooseCleansSpec) false w args)
     (Rows.chooseCleansSpec.post enc Tryz.prog Tryz.f5 false true false false) := by
 refine returnsInHanded_of_change_and (C := Tryz.checked) (X := fun w _ => laidMetH Tryz.prog Rows.chooseCleansRow.laid w) (fun _ _ _ hh h => h.of_heap hh) own started (by kernel_rfl) Tryz.func5
   (ChangeSpec.witness_shaped (enc := enc) (C := Tryz.checked) (os := os) (X := fun w _ => laidMetH Tryz.prog Rows.chooseCleansRow.laid w) false (World.laidAll Tryz.prog os Rows.chooseCleansRow.laid) #[.slice none 0 0] 8 (World.laidAll_os _ _ _)
     (World.shaped_of_ZipB (by kernel_rfl) (by kernel_rfl)) (by kernel_rfl) (by kernel_rfl) (by kernel_rfl)
     (by rw [MakeChecks.laidMetH_plain _ _ _ (by kernel_rfl)]; exact laidMet_laidAll _ (by kernel_rfl) (by kernel_rfl))) ?_
 intro W base args ds gs before hval0 hW _ _ hL _
 have hval : ∀ (j : Nat) t v, Tryz.f5.params[j]? = some t → args[j]? = some v → Value.okWide Tryz.prog W .any base t v := hval0
 have hW' := hW
 obtain ⟨p, q, hA0, hV, rfl, hfz, hnd⟩ := hW
 have hA : DataW.TrodAll enc Tryz.prog W 0 (fun _ => true) true Tryz.f5.params.toList args.toList ds p := hA0
 rw [Tryz.params5] at hA hval
 have hA : DataW.TrodAll enc Tryz.prog W 0 (fun _ => true) true [22] args.toList ds p := hA
 have hval : ∀ (j : Nat) t v, [22][j]? = some t → args[j]? = some v → Value.okWide Tryz.prog W .any base t v := fun j t v ht hv => hval j t v (by simpa using ht) hv
 have hp : ∀ t, t ∈ [22] → z5i Tryz.prog 8 t = true := by
   intro t ht
   simp only [List.mem_cons, List.not_mem_nil, or_false] at ht
   subst ht
   · exact plain22
 have hr : ∀ t, t ∈ [22] → Tryz.prog.readableRec t = true ∧ t < Tryz.prog.types.size := by
   intro t ht
   simp only [List.mem_cons, List.not_mem_nil, or_false] at ht
   subst ht
   · exact read22
 have fit := z10p hA hp
 obtain ⟨v0, vs0, d0, ds0, p0, q0, hargs, rfl, hpl0, h0, r0⟩ := trodAll_cons hA
 obtain ⟨hvs, rfl, hps⟩ := trodAll_nil r0
 obtain ⟨rfl, rfl⟩ := trodVars_none hV
 have hc : ACalls Tryz.prog 5 (List.zipWith (argPV Tryz.prog) [22] [d0]) [] 0 (fun p _ _ => p = .val (.bool true)) :=
   z1an (m := 8) (f := 5) (A := [.d (.sl .str)]) (show FnOK Tryz.prog (zfm 5 [.d (.sl .str)]) zet from zlx) (fun x => rfl) rfl fit (by kernel_rfl) (fun x h g => z12q x h g.1 g.2)
 refine (z16w hA hp hval (z13u hL).1 (z13u hL).2 hc).mono fun e W' ⟨he, bel⟩ => ?_
 subst he
 exact ⟨_, rfl, _, _, _, [], _, [], hW', trodAll_mk1 (shut_bool boolTy _), zup laidOut bel hA hr, rfl, bel.frame _, fun h => by cases h⟩
theorem chooseCleans_holds : Rows.ChooseCleansSaid :=
 OpenClaim.holds_of_wide 5 Tryz.f5 rfl rfl rfl rfl rfl rfl rfl ⟨rfl, rfl, rfl, rfl, rfl⟩ rfl rfl rfl rfl rfl (by kernel_rfl) Tryz.func5 (by kernel_rfl)
   (of_decide_eq_true (by kernel_rfl)) (by unfold Func.isWrapper; first | (rw [if_pos (by decide +kernel)]; kernel_rfl) | (rw [if_neg (by decide +kernel)]; exact ⟨rfl, rfl⟩))
   (fun os started H enc _ => chooseCleans_lifted os started H enc)
theorem chooseCleans_card : Rows.ChooseCleansCardSaid :=
 Claim7.holds_tied_plain_at .later [] [.data, .data, .data, .data, .sentinel, .sentinel, .pinned] true (true, "10e06fa32d662917a9d767410d933a5f42ddccf23dee3600a8543ed12d73311f") true chooseCleans_holds (fun _ h => by cases h) (by kernel_rfl) (fun _ h => by cases h) chooseCleans_row_tie rfl ⟨rfl, rfl⟩ (by kernel_rfl) rfl
   (fun f fn hf hfn => by
     obtain rfl : f = 5 := Option.some.inj ((show Tryz.prog.funcNamed "wardship/wardshiplaw14.ChooseCleans" = some 5 by kernel_rfl).symm.trans hf) |>.symm
     obtain rfl : fn = Tryz.f5 := (Option.some.inj (Tryz.func5.symm.trans hfn)).symm
     exact ⟨by kernel_rfl, fun j t ht => by
       rw [Tryz.params5] at ht
       have hm : t ∈ [22] := by simpa using Array.mem_of_getElem? ht
       have hall : ([22].all fun u => !Tryz.prog.wantsStandIn u) = true := by kernel_rfl
       exact (show Tryz.prog.wantsStandIn t = false by simpa using List.all_eq_true.1 hall t hm)⟩)
   (by kernel_rfl)
end Go.Proofs.YtomgkgngbpnngaaGreatDoor