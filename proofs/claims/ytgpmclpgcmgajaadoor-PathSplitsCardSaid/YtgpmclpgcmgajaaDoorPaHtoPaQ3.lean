import Derived.Test.YtgpmclpgcmgajaaDoorPaAtoPaG
import Derived.Test.YtgpmclpgcmgajaaDoorRows
import Derived.Stop.LaidErr
import Derived.Lib.LaidTab
import Derived.ProofKit
import Derived.Lay
import Derived.LaidMore
set_option maxRecDepth 100000
set_option linter.unusedVariables false
set_option linter.unusedSimpArgs false
namespace Go.Proofs.YtgpmclpgcmgajaaDoor
open Go.Tm Go.Ab Go.Lib
def joinT (l : List (List Int)) : List Int := l.flatMap fun p => 47 :: p
def joinI (l : List (List Int)) : List Int := if l = [] then [47] else joinT l
theorem zcx (p : List Int) (l : List (List Int)) : joinT (p :: l) = 47 :: (p ++ joinT l) := by simp [joinT]
theorem zkw (a b : List UInt8) : nums (a ++ b) = nums a ++ nums b := by simp [nums]
theorem zsa : ∀ (l : List (List Int)), (∀ p, p ∈ l → Bs p) → nums (joinTail [47] ((l.map ba).map (·.data.toList))) = joinT l
 | [], _ => rfl
 | p :: l, h => by
   have ih := zsa l fun q hq => h q (by simp [hq])
   have e0 : (ba p).data.toList = p.map b8 := zdc p
   have e : joinTail [47] (((p :: l).map ba).map (·.data.toList)) = ([47] ++ p.map b8) ++ joinTail [47] ((l.map ba).map (·.data.toList)) := by
     simp [joinTail, e0]
   rw [e, zkw, ih, zkw, zjj (h p (by simp)), zcx]
   simp [nums]
theorem zv4 : ∀ (l : List (List Int)) (m : Nat), (∀ p, p ∈ l → p.length ≤ m) → (joinT l).length ≤ l.length * (m + 1)
 | [], m, _ => by simp [joinT]
 | p :: l, m, h => by
   have ih := zv4 l m fun q hq => h q (by simp [hq])
   have := h p (by simp)
   rw [zcx, List.length_cons, List.length_append, List.length_cons, Nat.succ_mul]
   omega
theorem zqf (l : List UInt8) : (nums l).length = l.length := by simp [nums]
theorem zyl {l : List (List Int)} (hb : ∀ p, p ∈ l → Bs p) (h1 : l.length ≤ 40) (h2 : ∀ p, p ∈ l → p.length ≤ 200) : zcb l = some (joinI l) := by
 have hJ : nums (joinL l [47]) = (joinI l).tail ∧ (joinL l [47]).length ≤ 8040 := by
   cases l with
   | nil => exact ⟨rfl, by decide⟩
   | cons p l =>
     have e : joinL (p :: l) [47] = p.map b8 ++ joinTail [47] ((l.map ba).map (·.data.toList)) := by
       unfold joinL
       have e0 : (ba p).data.toList = p.map b8 := zdc p
       have e1 : (ba [47]).data.toList = [47] := rfl
       rw [List.map_cons, List.map_cons, join_cons, e0, e1]
     have t := zsa l fun q hq => hb q (by simp [hq])
     have e2 : nums (joinL (p :: l) [47]) = p ++ joinT l := by rw [e, zkw, zjj (hb p (by simp)), t]
     refine ⟨?_, ?_⟩
     · rw [e2]
       unfold joinI
       rw [if_neg (by simp), zcx]; rfl
     · rw [← zqf, e2, List.length_append]
       have := zv4 l 200 fun q hq => h2 q (by simp [hq])
       have := h2 p (by simp)
       simp only [List.length_cons] at h1
       omega
 have hne : joinI l = 47 :: (joinI l).tail := by
   unfold joinI
   split
   · rfl
   · cases l with
     | nil => rename_i h; exact absurd rfl h
     | cons p l => rw [zcx]; rfl
 unfold zcb zkd
 rw [ble_t (by omega), ble_t (by omega)]
 simp only [Bool.and_self, cond_true, Option.bind_some]
 rw [hJ.1, zvc (by
   have := congrArg List.length hJ.1
   rw [zqf] at this
   simp only [List.length_cons, List.length_nil]
   omega)]
 rw [hne]; rfl
theorem zw9 : z7w = some true := by
 unfold z7w
 have b1 : Bs [47, 97, 47, 98, 126, 49, 46, 50, 48] := by unfold Bs; decide
 have b2 : Bs [47, 97, 47, 98] := by unfold Bs; decide
 have b3 : Bs [47, 97] := by unfold Bs; decide
 have e1 : z4g [47, 97, 47, 98, 126, 49, 46, 50, 48] = ([[97], [98, 126, 49, 46, 50, 48]], 0) := by decide
 have e2 : zmr [47, 97, 47, 98] [47, 97] = true := by decide
 rw [zgm b1 (by decide)]
 simp only [Option.bind_some]
 rw [zuo b2 b3 (by decide) (by decide), e1, e2]
 have e3 : zcb [[97], [98, 126, 49, 46, 50, 48]] = some [47, 97, 47, 98, 126, 49, 46, 50, 48] := by
   rw [zyl (by unfold Bs; decide) (by decide) (by decide)]; decide
 rw [e3]
 rfl
end Go.Proofs.YtgpmclpgcmgajaaDoor
set_option maxRecDepth 100000
set_option linter.unusedVariables false
namespace Go.Proofs.YtgpmclpgcmgajaaDoor
open Go.Ab Go.RowKit
theorem zu2 (u : TypeId) (h : Tryd.prog.typeName? 3 u = some "*errors.errorString") : u = 105 :=
 typeName_ptr_named (nm := "errors.errorString") (by kernel_rfl) (by kernel_rfl) (by decide) u h
theorem zs4 {W : World} (hL : laidMetH Tryd.prog Rows.pathSplitsRow.laid W) : gb ≤ W.heap.size ∧ Glob W := by
 have hL0 : laidMet Tryd.prog Rows.pathSplitsRow.laid W := by
   rw [MakeChecks.laidMetH_plain _ _ _ (by kernel_rfl)] at hL
   exact hL
 have h1 := hL0.tail
 have h2 := h1.tail
 have h3 := h2.tail
 have h4 := h3.tail
 have h5 := h4.tail
 have ht : Lib.TabIs Tryd.prog W "internal/strconv.uint64pow10" .u64 Lib.pow10Tab :=
   Lib.tabIs_of_head (g := 1) (t := 90) (e := 48) (n := 20) (by kernel_rfl) (by kernel_rfl) (by kernel_rfl) (by kernel_rfl) (by kernel_rfl) (by kernel_rfl) h2
 obtain ⟨a0, s0, hv0, -, -, -⟩ := laid_sentinel h4 (g := 3) (by kernel_rfl) (by kernel_rfl) Tryd.underlying53 zu2 Tryd.underlying105 Tryd.underlying107 rfl rfl Tryd.underlying9 (by kernel_rfl) (by kernel_rfl)
 obtain ⟨a1, s1, hv1, -, -, -⟩ := laid_sentinel h5 (g := 2) (by kernel_rfl) (by kernel_rfl) Tryd.underlying53 zu2 Tryd.underlying105 Tryd.underlying107 rfl rfl Tryd.underlying9 (by kernel_rfl) (by kernel_rfl)
 refine ⟨?_, ht, ⟨_, _, hv1⟩, ⟨_, _, hv0⟩⟩
 obtain ⟨ps, ⟨g, t, cs, fuel, p, q, hg, _, hv, _, _, _⟩, _⟩ := h1
 have hg7 : g = 7 := (Option.some.inj (hg.symm.trans (show Tryd.prog.globalNamed "math/bits.deBruijn64tab" = some 7 by kernel_rfl)))
 subst hg7
 unfold World.var? at hv
 rw [hg] at hv
 simp only [Option.bind_some] at hv
 have : 7 < W.heap.size := by
   rcases Nat.lt_or_ge 7 W.heap.size with h' | h'
   · exact h'
   · rw [Array.getElem?_eq_none h'] at hv; cases hv
 exact this
end Go.Proofs.YtgpmclpgcmgajaaDoor
set_option maxRecDepth 100000
set_option linter.unusedVariables false
noncomputable section
namespace Go.Proofs.YtgpmclpgcmgajaaDoor
open Go.Tm Go.Ab
def ziz : Env := ⟨[(entQ zhk zfw), (entQ zhe zfz), (entQ zar za0), (entQ zhf zfe), (entQ zj4 zh8), (entQ zev zea), (entQ zdx zck)], [], []⟩
theorem zge : EnvsOK Tryd.prog ziz := ⟨z0p (z1a znc) (z0p (z1a zmp) (z0p (z1a zcn) (z0p (z1a znb) (z0p (z1a zov) (z0p (z1a zi1) (z0p (z1a zh1) (z2y _))))))), z1x _, z1y _⟩
def zax : Shp := ⟨1, 0, [(0, .d .bool)], []⟩
def zc2 : XS := .one .ret zax.xe
theorem zfr : zc2.OK := XS.one_ok (z0g zax)
def za9 (t0 : List Int) (part : List Int) : Option ((Bool)) :=
 (z7w).bind fun r =>
 bif !r then
 (z7w).bind fun r2 =>
 some r2
 else
 (z9p ([t0, part] : List (List Int))).bind fun r3 =>
 bif !r3 then
 (z7w).bind fun r4 =>
 some r4
 else
 (z7o t0).bind fun r5 =>
 (zbw t0).bind fun r6 =>
 (zcw r5.1 r6.1).bind fun r7 =>
 bif r7 then
 bif eqI r5.2 r6.2 then
 (zce part).bind fun r8 =>
 (zb0 part).bind fun r9 =>
 some (r8 == r9)
 else
 some false
 else
 some false
def zic : Sig := ⟨3, [.d .str, .d .str], [], 0, zc2⟩
def zbf (x : (List Int) × (List Int)) : Option ((Bool)) := za9 x.1 x.2
theorem zhm : FnOK Tryd.prog zic zbf :=
 fn_ok zge (h := .no) Tryd.func3 (z1p [] (by kernel_rfl) trivial) (by kernel_rfl) zfr (fun x => by kernel_rfl)
end Go.Proofs.YtgpmclpgcmgajaaDoor
set_option maxRecDepth 100000
set_option linter.unusedVariables false
set_option linter.unusedSimpArgs false
namespace Go.Proofs.YtgpmclpgcmgajaaDoor
open Go.Tm Go.Ab Go.Lib
theorem zr0 (s part : List Int) (h1 : Bs s) (h2 : Bs part) (g1 : s.length ≤ maxLen) (g2 : part.length ≤ maxLen) : za9 s part = some true := by
 unfold za9
 have hs : z9p [s, part] = some (zhu [s, part]) := zww (by unfold maxLen; simp) fun x hx => by
   rcases List.mem_cons.1 hx with rfl | hx
   · exact g1
   · simp at hx; subst hx; exact g2
 rw [zw9, hs]
 simp only [Option.bind_some, Bool.not_true, cond_false]
 cases hsh : zhu [s, part] with
 | false => rfl
 | true =>
   unfold zhu at hsh
   simp only [List.all_cons, List.all_nil, Bool.and_true, Bool.and_eq_true, decide_eq_true_eq] at hsh
   rw [zgm h1 (by omega), zrj h1 (by omega), zsd h2 (by omega), zgv h2 (by omega)]
   simp only [Option.bind_some, Bool.not_true, cond_false]
   have := zj1 s
   rw [zy5 (by omega) (by omega), decide_eq_true rfl]
   simp only [Option.bind_some, cond_true]
   rw [eqI_t rfl, cond_true]
   simp
end Go.Proofs.YtgpmclpgcmgajaaDoor