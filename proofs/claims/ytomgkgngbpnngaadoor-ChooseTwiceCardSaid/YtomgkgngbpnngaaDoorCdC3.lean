import Derived.Test.YtomgkgngbpnngaaDoorCdJtoCdQ3
import Derived.Test.YtomgkgngbpnngaaDoorTm21to25
import Derived.Test.YtomgkgngbpnngaaDoorTie
import Derived.Test.YtomgkgngbpnngaaDoorCards
import Derived.ProofKit
import Derived.Lay
import Derived.LaidMore
import Derived.Stop.Joined
import Derived.SevenTiedAt
set_option linter.unusedVariables false
set_option linter.unusedSimpArgs false
namespace Go.Proofs.YtomgkgngbpnngaaDoor
open Go.Ab Go.Tm
open Go.ChangeShapes Go.WideShapes Go.ChangeAt Go.RowKit
theorem own : ownKnob Tryd.prog.godebug = none := by kernel_rfl
theorem laidOut : laidOutB Tryd.prog = true := by kernel_rfl
theorem boolTy : Tryd.prog.underlying 4 = some .bool := by kernel_rfl
theorem plain22 : z3x Tryd.prog 8 22 = true := by kernel_rfl
theorem read22 : Tryd.prog.readableRec 22 = true ∧ 22 < Tryd.prog.types.size := ⟨by kernel_rfl, of_decide_eq_true (by kernel_rfl)⟩
set_option maxRecDepth 100000 in
theorem chooseTwice_lifted (os : Os) (started : os.Started) (H : Type) (enc : TypeId × Value → H) :
   ReturnsInHanded {} Tryd.checked os 3 .any (fun w args => (Rows.chooseTwiceSpec.pre enc Tryd.prog Tryd.f3 [] false w args ∧ laidMetH Tryd.prog Rows.chooseTwiceRow.laid w) ∧ sizedMet enc Tryd.prog Tryd.f3 (OpenSpec.ofChange Rows.chooseTwiceSpec) false w args)
     (Rows.chooseTwiceSpec.post enc Tryd.prog Tryd.f3 false true false false) := by
 refine returnsInHanded_of_change_and (C := Tryd.checked) (X := fun w _ => laidMetH Tryd.prog Rows.chooseTwiceRow.laid w) (fun _ _ _ hh h => h.of_heap hh) own started (by kernel_rfl) Tryd.func3
   (ChangeSpec.witness_shaped (enc := enc) (C := Tryd.checked) (os := os) (X := fun w _ => laidMetH Tryd.prog Rows.chooseTwiceRow.laid w) false (World.laidAll Tryd.prog os Rows.chooseTwiceRow.laid) #[.slice none 0 0] 8 (World.laidAll_os _ _ _)
     (World.shaped_of_ZipB (by kernel_rfl) (by kernel_rfl)) (by kernel_rfl) (by kernel_rfl) (by kernel_rfl)
     (by rw [MakeChecks.laidMetH_plain _ _ _ (by kernel_rfl)]; exact laidMet_laidAll _ (by kernel_rfl) (by kernel_rfl))) ?_
 intro W base args ds gs before hval0 hW _ _ hL _
 have hval : ∀ (j : Nat) t v, Tryd.f3.params[j]? = some t → args[j]? = some v → Value.okWide Tryd.prog W .any base t v := hval0
 have hW' := hW
 obtain ⟨p, q, hA0, hV, rfl, hfz, hnd⟩ := hW
 have hA : DataW.TrodAll enc Tryd.prog W 0 (fun _ => true) true Tryd.f3.params.toList args.toList ds p := hA0
 rw [Tryd.params3] at hA hval
 have hA : DataW.TrodAll enc Tryd.prog W 0 (fun _ => true) true [22] args.toList ds p := hA
 have hval : ∀ (j : Nat) t v, [22][j]? = some t → args[j]? = some v → Value.okWide Tryd.prog W .any base t v := fun j t v ht hv => hval j t v (by simpa using ht) hv
 have hp : ∀ t, t ∈ [22] → z3x Tryd.prog 8 t = true := by
   intro t ht
   simp only [List.mem_cons, List.not_mem_nil, or_false] at ht
   subst ht
   · exact plain22
 have hr : ∀ t, t ∈ [22] → Tryd.prog.readableRec t = true ∧ t < Tryd.prog.types.size := by
   intro t ht
   simp only [List.mem_cons, List.not_mem_nil, or_false] at ht
   subst ht
   · exact read22
 have fit := zt4 hA hp
 obtain ⟨v0, vs0, d0, ds0, p0, q0, hargs, rfl, hpl0, h0, r0⟩ := trodAll_cons hA
 obtain ⟨hvs, rfl, hps⟩ := trodAll_nil r0
 obtain ⟨rfl, rfl⟩ := trodVars_none hV
 have hc : ACalls Tryd.prog 3 (List.zipWith (argPV Tryd.prog) [22] [d0]) [] 0 (fun p _ _ => p = .val (.bool true)) :=
   z11f (m := 8) (f := 3) (A := [.d (.sl .str)]) (show FnOK Tryd.prog (zcg 3 [.d (.sl .str)]) zcm from zjl) (fun x => rfl) rfl fit (by kernel_rfl) (fun x h g => zx3 x h g.1 g.2)
 refine (zyt hA hp hval (zw7 hL).1 (zw7 hL).2 hc).mono fun e W' ⟨he, bel⟩ => ?_
 subst he
 exact ⟨_, rfl, _, _, _, [], _, [], hW', trodAll_mk1 (shut_bool boolTy _), zp7 laidOut bel hA hr, rfl, bel.frame _, fun h => by cases h⟩
theorem chooseTwice_holds : Rows.ChooseTwiceSaid :=
 OpenClaim.holds_of_wide 3 Tryd.f3 rfl rfl rfl rfl rfl rfl rfl ⟨rfl, rfl, rfl, rfl, rfl⟩ rfl rfl rfl rfl rfl (by kernel_rfl) Tryd.func3 (by kernel_rfl)
   (of_decide_eq_true (by kernel_rfl)) (by unfold Func.isWrapper; first | (rw [if_pos (by decide +kernel)]; kernel_rfl) | (rw [if_neg (by decide +kernel)]; exact ⟨rfl, rfl⟩))
   (fun os started H enc _ => chooseTwice_lifted os started H enc)
theorem chooseTwice_card : Rows.ChooseTwiceCardSaid :=
 Claim7.holds_tied_plain_at .later [] [.data, .data, .data, .data, .sentinel, .sentinel, .pinned] true (true, "d87cdbf102cbec705e4dc56832d639d6e373181c92fde58202218b620c1d81b6") true chooseTwice_holds (fun _ h => by cases h) (by kernel_rfl) (fun _ h => by cases h) chooseTwice_row_tie rfl ⟨rfl, rfl⟩ (by kernel_rfl) rfl
   (fun f fn hf hfn => by
     obtain rfl : f = 3 := Option.some.inj ((show Tryd.prog.funcNamed "wardship/wardshiplaw14.ChooseTwice" = some 3 by kernel_rfl).symm.trans hf) |>.symm
     obtain rfl : fn = Tryd.f3 := (Option.some.inj (Tryd.func3.symm.trans hfn)).symm
     exact ⟨by kernel_rfl, fun j t ht => by
       rw [Tryd.params3] at ht
       have hm : t ∈ [22] := by simpa using Array.mem_of_getElem? ht
       have hall : ([22].all fun u => !Tryd.prog.wantsStandIn u) = true := by kernel_rfl
       exact (show Tryd.prog.wantsStandIn t = false by simpa using List.all_eq_true.1 hall t hm)⟩)
   (by kernel_rfl)
end Go.Proofs.YtomgkgngbpnngaaDoor