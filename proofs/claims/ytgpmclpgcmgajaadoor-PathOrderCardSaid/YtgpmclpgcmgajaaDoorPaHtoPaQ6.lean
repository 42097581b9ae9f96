import Derived.Test.YtgpmclpgcmgajaaDoorPaAtoPaG
import Derived.Test.YtgpmclpgcmgajaaDoorRows
import Derived.Stop.LaidErr
import Derived.Lib.LaidTab
import Derived.ProofKit
import Derived.Lay
import Derived.LaidMore
set_option maxRecDepth 100000
set_option linter.unusedVariables false
set_option linter.unusedSimpArgs false
namespace Go.Proofs.YtgpmclpgcmgajaaDoor
open Go.Tm Go.Ab Go.Lib
def joinT (l : List (List Int)) : List Int := l.flatMap fun p => 47 :: p
def joinI (l : List (List Int)) : List Int := if l = [] then [47] else joinT l
theorem z4h (p : List Int) (l : List (List Int)) : joinT (p :: l) = 47 :: (p ++ joinT l) := by simp [joinT]
theorem zi0 (a b : List UInt8) : nums (a ++ b) = nums a ++ nums b := by simp [nums]
theorem zp9 : ∀ (l : List (List Int)), (∀ p, p ∈ l → Bs p) → nums (joinTail [47] ((l.map ba).map (·.data.toList))) = joinT l
 | [], _ => rfl
 | p :: l, h => by
   have ih := zp9 l fun q hq => h q (by simp [hq])
   have e0 : (ba p).data.toList = p.map b8 := zbc p
   have e : joinTail [47] (((p :: l).map ba).map (·.data.toList)) = ([47] ++ p.map b8) ++ joinTail [47] ((l.map ba).map (·.data.toList)) := by
     simp [joinTail, e0]
   rw [e, zi0, ih, zi0, zgv (h p (by simp)), z4h]
   simp [nums]
theorem zr3 : ∀ (l : List (List Int)) (m : Nat), (∀ p, p ∈ l → p.length ≤ m) → (joinT l).length ≤ l.length * (m + 1)
 | [], m, _ => by simp [joinT]
 | p :: l, m, h => by
   have ih := zr3 l m fun q hq => h q (by simp [hq])
   have := h p (by simp)
   rw [z4h, List.length_cons, List.length_append, List.length_cons, Nat.succ_mul]
   omega
theorem zno (l : List UInt8) : (nums l).length = l.length := by simp [nums]
theorem zul {l : List (List Int)} (hb : ∀ p, p ∈ l → Bs p) (h1 : l.length ≤ 40) (h2 : ∀ p, p ∈ l → p.length ≤ 200) : za8 l = some (joinI l) := by
 have hJ : nums (joinL l [47]) = (joinI l).tail ∧ (joinL l [47]).length ≤ 8040 := by
   cases l with
   | nil => exact ⟨rfl, by decide⟩
   | cons p l =>
     have e : joinL (p :: l) [47] = p.map b8 ++ joinTail [47] ((l.map ba).map (·.data.toList)) := by
       unfold joinL
       have e0 : (ba p).data.toList = p.map b8 := zbc p
       have e1 : (ba [47]).data.toList = [47] := rfl
       rw [List.map_cons, List.map_cons, join_cons, e0, e1]
     have t := zp9 l fun q hq => hb q (by simp [hq])
     have e2 : nums (joinL (p :: l) [47]) = p ++ joinT l := by rw [e, zi0, zgv (hb p (by simp)), t]
     refine ⟨?_, ?_⟩
     · rw [e2]
       unfold joinI
       rw [if_neg (by simp), z4h]; rfl
     · rw [← zno, e2, List.length_append]
       have := zr3 l 200 fun q hq => h2 q (by simp [hq])
       have := h2 p (by simp)
       simp only [List.length_cons] at h1
       omega
 have hne : joinI l = 47 :: (joinI l).tail := by
   unfold joinI
   split
   · rfl
   · cases l with
     | nil => rename_i h; exact absurd rfl h
     | cons p l => rw [z4h]; rfl
 unfold za8 zhr
 rw [ble_t (by omega), ble_t (by omega)]
 simp only [Bool.and_self, cond_true, Option.bind_some]
 rw [hJ.1, zrs (by
   have := congrArg List.length hJ.1
   rw [zno] at this
   simp only [List.length_cons, List.length_nil]
   omega)]
 rw [hne]; rfl
theorem zh0 : ∀ (t : List Int), joinT (z1z 47 t) = 47 :: t
 | [] => rfl
 | x :: l => by
   have ih := zh0 l
   rw [z1z]
   split
   · rename_i h; subst h
     rw [z4h, ih]; rfl
   · split
     · rename_i h; rw [h] at ih; simp [joinT] at ih
     · rename_i p ps h
       rw [h, z4h] at ih
       rw [z4h, List.cons_append, (List.cons.inj ih).2]
theorem zmf {s : List Int} (h : (z3g s).2 = 0) : s = joinI (z3g s).1 := by
 unfold z3g at h ⊢
 split at h
 · cases h
 · rename_i h0
   rw [if_neg h0]
   simp only [not_or, Decidable.not_not] at h0
   split at h
   · rename_i h1; rw [if_pos h1, h1]; rfl
   · rename_i h1
     rw [if_neg h1]
     split at h
     · cases h
     · rename_i h2
       rw [if_neg h2]
       have hs : s = 47 :: s.tail := by
         cases s with
         | nil => simp at h0
         | cons x l => have := h0.2; simp at this; rw [this]; rfl
       have hj := zh0 s.tail
       unfold joinI
       split
       · rename_i e; dsimp only at e; rw [e] at hj; simp [joinT] at hj
       · dsimp only; rw [hj]; exact hs
theorem zty : z6a = some true := by
 unfold z6a
 have b1 : Bs [47, 97, 47, 98, 126, 49, 46, 50, 48] := by unfold Bs; decide
 have b2 : Bs [47, 97, 47, 98] := by unfold Bs; decide
 have b3 : Bs [47, 97] := by unfold Bs; decide
 have e1 : z3g [47, 97, 47, 98, 126, 49, 46, 50, 48] = ([[97], [98, 126, 49, 46, 50, 48]], 0) := by decide
 have e2 : z9o [47, 97, 47, 98] [47, 97] = true := by decide
 rw [zbw b1 (by decide)]
 simp only [Option.bind_some]
 rw [zg3 b2 b3 (by decide) (by decide), e1, e2]
 have e3 : za8 [[97], [98, 126, 49, 46, 50, 48]] = some [47, 97, 47, 98, 126, 49, 46, 50, 48] := by
   rw [zul (by unfold Bs; decide) (by decide) (by decide)]; decide
 rw [e3]
 rfl
end Go.Proofs.YtgpmclpgcmgajaaDoor
set_option maxRecDepth 100000
set_option linter.unusedVariables false
namespace Go.Proofs.YtgpmclpgcmgajaaDoor
open Go.Ab Go.RowKit
theorem zr1 (u : TypeId) (h : Tryd.prog.typeName? 3 u = some "*errors.errorString") : u = 105 :=
 typeName_ptr_named (nm := "errors.errorString") (by kernel_rfl) (by kernel_rfl) (by decide) u h
theorem zov {W : World} (hL : laidMetH Tryd.prog Rows.pathSplitsRow.laid W) : gb ≤ W.heap.size ∧ Glob W := by
 have hL0 : laidMet Tryd.prog Rows.pathSplitsRow.laid W := by
   rw [MakeChecks.laidMetH_plain _ _ _ (by kernel_rfl)] at hL
   exact hL
 have h1 := hL0.tail
 have h2 := h1.tail
 have h3 := h2.tail
 have h4 := h3.tail
 have h5 := h4.tail
 have ht : Lib.TabIs Tryd.prog W "internal/strconv.uint64pow10" .u64 Lib.pow10Tab :=
   Lib.tabIs_of_head (g := 1) (t := 90) (e := 48) (n := 20) (by kernel_rfl) (by kernel_rfl) (by kernel_rfl) (by kernel_rfl) (by kernel_rfl) (by kernel_rfl) h2
 obtain ⟨a0, s0, hv0, -, -, -⟩ := laid_sentinel h4 (g := 3) (by kernel_rfl) (by kernel_rfl) Tryd.underlying53 zr1 Tryd.underlying105 Tryd.underlying107 rfl rfl Tryd.underlying9 (by kernel_rfl) (by kernel_rfl)
 obtain ⟨a1, s1, hv1, -, -, -⟩ := laid_sentinel h5 (g := 2) (by kernel_rfl) (by kernel_rfl) Tryd.underlying53 zr1 Tryd.underlying105 Tryd.underlying107 rfl rfl Tryd.underlying9 (by kernel_rfl) (by kernel_rfl)
 refine ⟨?_, ht, ⟨_, _, hv1⟩, ⟨_, _, hv0⟩⟩
 obtain ⟨ps, ⟨g, t, cs, fuel, p, q, hg, _, hv, _, _, _⟩, _⟩ := h1
 have hg7 : g = 7 := (Option.some.inj (hg.symm.trans (show Tryd.prog.globalNamed "math/bits.deBruijn64tab" = some 7 by kernel_rfl)))
 subst hg7
 unfold World.var? at hv
 rw [hg] at hv
 simp only [Option.bind_some] at hv
 have : 7 < W.heap.size := by
   rcases Nat.lt_or_ge 7 W.heap.size with h' | h'
   · exact h'
   · rw [Array.getElem?_eq_none h'] at hv; cases hv
 exact this
end Go.Proofs.YtgpmclpgcmgajaaDoor
set_option maxRecDepth 100000
set_option linter.unusedVariables false
noncomputable section
namespace Go.Proofs.YtgpmclpgcmgajaaDoor
open Go.Tm Go.Ab
def zgw : Env := ⟨[(entQ zep zdb), (entQ zeu zdd), (entQ zap za1), (entQ z9b z7q)], [], []⟩
theorem zew : EnvsOK Tryd.prog zgw := ⟨z0y (z1o zk0) (z0y (z1o zk1) (z0y (z1o zct) (z0y (z1o zak) (z3n _)))), z2t _, z2n _⟩
def z9i : Shp := ⟨1, 0, [(0, .d .bool)], []⟩
def zas : XS := .one .ret z9i.xe
theorem zdu : zas.OK := XS.one_ok (z1l z9i)
def z8u (a : List Int) (b : List Int) : Option ((Bool)) :=
 (z6a).bind fun r =>
 bif !r then
 (z6a).bind fun r2 =>
 some r2
 else
 (z7l ([a, b] : List (List Int))).bind fun r3 =>
 bif !r3 then
 (z6a).bind fun r4 =>
 some r4
 else
 (z6b a b).bind fun r5 =>
 bif !r5 then
 some true
 else
 (z4f a).bind fun r6 =>
 (z4f b).bind fun r7 =>
 bif neI r6.2 0 then
 some false
 else
 bif neI r7.2 0 then
 some false
 else
 z0l (List.length r6.1) (
 z0l (List.length r7.1) (
 bif ltI (List.length r6.1 : Nat) (List.length r7.1 : Nat) then
 some false
 else
 z0l (List.length a) (
 z0l (List.length b) (
 bif ltI (List.length a : Nat) (List.length b : Nat) then
 some false
 else
 z0l (List.length b) (
 bif subOk 0 (List.length b : Nat) (List.length a) then
 bif !(eqS (subL a 0 (List.length b : Nat)) b) then
 some false
 else
 (z6b b a).bind fun r8 =>
 bif !r8 then
 some true
 else
 some (eqS a b)
 else none)))))
def zgx : Sig := ⟨6, [.d .str, .d .str], [], 0, zas⟩
def zaj (x : (List Int) × (List Int)) : Option ((Bool)) := z8u x.1 x.2
theorem zft : FnOK Tryd.prog zgx zaj :=
 fn_ok zew (h := .no) Tryd.func6 (z3d [] (by kernel_rfl) trivial) (by kernel_rfl) zdu (fun x => by kernel_rfl)
end Go.Proofs.YtgpmclpgcmgajaaDoor
set_option maxRecDepth 100000
set_option linter.unusedVariables false
set_option linter.unusedSimpArgs false
namespace Go.Proofs.YtgpmclpgcmgajaaDoor
open Go.Tm Go.Ab Go.Lib
theorem zea (p : List Int) (l : List (List Int)) : joinI (p :: l) = 47 :: (p ++ joinT l) := by unfold joinI; rw [if_neg (by simp), z4h]
theorem zt8 (l : List (List Int)) : ∃ t, joinI l = 47 :: t := by
 cases l with
 | nil => exact ⟨[], rfl⟩
 | cons p l => exact ⟨_, zea p l⟩
theorem zrh (a b : List (List Int)) : joinT (a ++ b) = joinT a ++ joinT b := by simp [joinT]
theorem zo4 {a b : List (List Int)} (h : b <+: a) : joinI b <+: joinI a := by
 obtain ⟨t, rfl⟩ := h
 cases b with
 | nil =>
   obtain ⟨u, hu⟩ := zt8 ([] ++ t)
   exact ⟨u, by rw [hu]; rfl⟩
 | cons p l =>
   refine ⟨joinT t, ?_⟩
   rw [List.cons_append, zea, zea, zrh]
   simp
theorem zpx (a b : List Int) (h1 : Bs a) (h2 : Bs b) (g1 : a.length ≤ maxLen) (g2 : b.length ≤ maxLen) : z8u a b = some true := by
 refine ok_is ?_
 unfold z8u
 have hs : z7l [a, b] = some (zga [a, b]) := ztp (by unfold maxLen; simp) fun x hx => by
   rcases List.mem_cons.1 hx with rfl | hx
   · exact g1
   · simp at hx; subst hx; exact g2
 rw [zty, hs]
 simp only [Option.bind_some, Bool.not_true, cond_false]
 cases hsh : zga [a, b] with
 | false => exact z2s rfl
 | true =>
   unfold zga at hsh
   simp only [List.all_cons, List.all_nil, Bool.and_true, Bool.and_eq_true, decide_eq_true_eq] at hsh
   rw [zbw h1 (by omega), zbw h2 (by omega), zg3 h1 h2 (by omega) (by omega), zg3 h2 h1 (by omega) (by omega)]
   simp only [Option.bind_some, Bool.not_true, cond_false]
   cases hw : z9o a b with
   | false => exact z2s rfl
   | true =>
     unfold z9o at hw
     simp only [Bool.and_eq_true, decide_eq_true_eq, List.isPrefixOf_iff_prefix] at hw
     obtain ⟨⟨e1, e2⟩, hpre⟩ := hw
     have ja := zmf e1
     have jb := zmf e2
     have hpl := hpre.length_le
     have hab : b <+: a := by rw [ja, jb]; exact zo4 hpre
     have hlab := hab.length_le
     have l1 := zc9 a
     have l2 := zc9 b
     have hsub : subL a 0 (b.length : Int) = b := by
       obtain ⟨t, rfl⟩ := hab
       simp [subL]
     simp only [Bool.not_true, cond_false]
     rw [e1, e2, hsub]
     have hfin : z9o b a = true → a = b := fun h => by
       unfold z9o at h
       simp only [Bool.and_eq_true, decide_eq_true_eq, List.isPrefixOf_iff_prefix] at h
       have e3 : (z3g a).1 = (z3g b).1 := h.2.eq_of_length_le hpl
       rw [ja, jb, e3]
     repeat' first
       | (dsimp only [Int.toNat_natCast, List.length_nil])
       | with_reducible first | refine zcr ?_ | refine zd7 ?_ | refine z2s ?_ | refine zdk ?_ | refine zbq ?_ | refine zf2 ?_ | refine qs ?_ | refine qb ?_ | refine zff ?_ | refine qw ?_ | refine zgi ?_ | refine zg1 ?_ | refine qi ?_ | refine qg (h := ?_) | refine qx (h := ?_) | refine qy (h := ?_) | refine qa ?_ | refine qc ?_ | refine ql ?_ | refine qp ?_ | refine zd2 ?_ | rfl
       | (with_reducible first | refine ok_lt ?_ ?_ | refine ok_le ?_ ?_ | refine zfz ?_ ?_ | refine zgh ?_ ?_ | refine zf7 ?_ ?_ | refine qu ?_ ?_ | refine ok_if ?_ ?_) <;> intro _ <;> try (exfalso; omega)
     · exact eqS_t (hfin (by assumption))
     · rename_i h; exact absurd rfl h
end Go.Proofs.YtgpmclpgcmgajaaDoor