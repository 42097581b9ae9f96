import Derived.Test.YtgpmclpgcmgajaaDoorPaAtoPaG
import Derived.Test.YtgpmclpgcmgajaaDoorRows
import Derived.Stop.LaidErr
import Derived.Lib.LaidTab
import Derived.ProofKit
import Derived.Lay
import Derived.LaidMore
set_option maxRecDepth 100000
set_option linter.unusedVariables false
set_option linter.unusedSimpArgs false
namespace Go.Proofs.YtgpmclpgcmgajaaDoor
open Go.Tm Go.Ab Go.Lib
def joinT (l : List (List Int)) : List Int := l.flatMap fun p => 47 :: p
def joinI (l : List (List Int)) : List Int := if l = [] then [47] else joinT l
theorem zcz (p : List Int) (l : List (List Int)) : joinT (p :: l) = 47 :: (p ++ joinT l) := by simp [joinT]
theorem zl3 (a b : List UInt8) : nums (a ++ b) = nums a ++ nums b := by simp [nums]
theorem zsa : ∀ (l : List (List Int)), (∀ p, p ∈ l → Bs p) → nums (joinTail [47] ((l.map ba).map (·.data.toList))) = joinT l
 | [], _ => rfl
 | p :: l, h => by
   have ih := zsa l fun q hq => h q (by simp [hq])
   have e0 : (ba p).data.toList = p.map b8 := zdh p
   have e : joinTail [47] (((p :: l).map ba).map (·.data.toList)) = ([47] ++ p.map b8) ++ joinTail [47] ((l.map ba).map (·.data.toList)) := by
     simp [joinTail, e0]
   rw [e, zl3, ih, zl3, zjk (h p (by simp)), zcz]
   simp [nums]
theorem zui : ∀ (l : List (List Int)) (m : Nat), (∀ p, p ∈ l → p.length ≤ m) → (joinT l).length ≤ l.length * (m + 1)
 | [], m, _ => by simp [joinT]
 | p :: l, m, h => by
   have ih := zui l m fun q hq => h q (by simp [hq])
   have := h p (by simp)
   rw [zcz, List.length_cons, List.length_append, List.length_cons, Nat.succ_mul]
   omega
theorem zr7 (l : List UInt8) : (nums l).length = l.length := by simp [nums]
theorem zxv {l : List (List Int)} (hb : ∀ p, p ∈ l → Bs p) (h1 : l.length ≤ 40) (h2 : ∀ p, p ∈ l → p.length ≤ 200) : zca l = some (joinI l) := by
 have hJ : nums (joinL l [47]) = (joinI l).tail ∧ (joinL l [47]).length ≤ 8040 := by
   cases l with
   | nil => exact ⟨rfl, by decide⟩
   | cons p l =>
     have e : joinL (p :: l) [47] = p.map b8 ++ joinTail [47] ((l.map ba).map (·.data.toList)) := by
       unfold joinL
       have e0 : (ba p).data.toList = p.map b8 := zdh p
       have e1 : (ba [47]).data.toList = [47] := rfl
       rw [List.map_cons, List.map_cons, join_cons, e0, e1]
     have t := zsa l fun q hq => hb q (by simp [hq])
     have e2 : nums (joinL (p :: l) [47]) = p ++ joinT l := by rw [e, zl3, zjk (hb p (by simp)), t]
     refine ⟨?_, ?_⟩
     · rw [e2]
       unfold joinI
       rw [if_neg (by simp), zcz]; rfl
     · rw [← zr7, e2, List.length_append]
       have := zui l 200 fun q hq => h2 q (by simp [hq])
       have := h2 p (by simp)
       simp only [List.length_cons] at h1
       omega
 have hne : joinI l = 47 :: (joinI l).tail := by
   unfold joinI
   split
   · rfl
   · cases l with
     | nil => rename_i h; exact absurd rfl h
     | cons p l => rw [zcz]; rfl
 unfold zca zkw
 rw [ble_t (by omega), ble_t (by omega)]
 simp only [Bool.and_self, cond_true, Option.bind_some]
 rw [hJ.1, zw7 (by
   have := congrArg List.length hJ.1
   rw [zr7] at this
   simp only [List.length_cons, List.length_nil]
   omega)]
 rw [hne]; rfl
theorem zwb : z8b = some true := by
 unfold z8b
 have b1 : Bs [47, 97, 47, 98, 126, 49, 46, 50, 48] := by unfold Bs; decide
 have b2 : Bs [47, 97, 47, 98] := by unfold Bs; decide
 have b3 : Bs [47, 97] := by unfold Bs; decide
 have e1 : z2c [47, 97, 47, 98, 126, 49, 46, 50, 48] = ([[97], [98, 126, 49, 46, 50, 48]], 0) := by decide
 have e2 : z4b [47, 97, 47, 98] [47, 97] = true := by decide
 rw [zgl b1 (by decide)]
 simp only [Option.bind_some]
 rw [zan b2 b3 (by decide) (by decide), e1, e2]
 have e3 : zca [[97], [98, 126, 49, 46, 50, 48]] = some [47, 97, 47, 98, 126, 49, 46, 50, 48] := by
   rw [zxv (by unfold Bs; decide) (by decide) (by decide)]; decide
 rw [e3]
 rfl
end Go.Proofs.YtgpmclpgcmgajaaDoor
set_option maxRecDepth 100000
set_option linter.unusedVariables false
namespace Go.Proofs.YtgpmclpgcmgajaaDoor
open Go.Ab Go.RowKit
theorem zvx (u : TypeId) (h : Tryd.prog.typeName? 3 u = some "*errors.errorString") : u = 105 :=
 typeName_ptr_named (nm := "errors.errorString") (by kernel_rfl) (by kernel_rfl) (by decide) u h
theorem zs9 {W : World} (hL : laidMetH Tryd.prog Rows.pathSplitsRow.laid W) : gb ≤ W.heap.size ∧ Glob W := by
 have hL0 : laidMet Tryd.prog Rows.pathSplitsRow.laid W := by
   rw [MakeChecks.laidMetH_plain _ _ _ (by kernel_rfl)] at hL
   exact hL
 have h1 := hL0.tail
 have h2 := h1.tail
 have h3 := h2.tail
 have h4 := h3.tail
 have h5 := h4.tail
 have ht : Lib.TabIs Tryd.prog W "internal/strconv.uint64pow10" .u64 Lib.pow10Tab :=
   Lib.tabIs_of_head (g := 1) (t := 90) (e := 48) (n := 20) (by kernel_rfl) (by kernel_rfl) (by kernel_rfl) (by kernel_rfl) (by kernel_rfl) (by kernel_rfl) h2
 obtain ⟨a0, s0, hv0, -, -, -⟩ := laid_sentinel h4 (g := 3) (by kernel_rfl) (by kernel_rfl) Tryd.underlying53 zvx Tryd.underlying105 Tryd.underlying107 rfl rfl Tryd.underlying9 (by kernel_rfl) (by kernel_rfl)
 obtain ⟨a1, s1, hv1, -, -, -⟩ := laid_sentinel h5 (g := 2) (by kernel_rfl) (by kernel_rfl) Tryd.underlying53 zvx Tryd.underlying105 Tryd.underlying107 rfl rfl Tryd.underlying9 (by kernel_rfl) (by kernel_rfl)
 refine ⟨?_, ht, ⟨_, _, hv1⟩, ⟨_, _, hv0⟩⟩
 obtain ⟨ps, ⟨g, t, cs, fuel, p, q, hg, _, hv, _, _, _⟩, _⟩ := h1
 have hg7 : g = 7 := (Option.some.inj (hg.symm.trans (show Tryd.prog.globalNamed "math/bits.deBruijn64tab" = some 7 by kernel_rfl)))
 subst hg7
 unfold World.var? at hv
 rw [hg] at hv
 simp only [Option.bind_some] at hv
 have : 7 < W.heap.size := by
   rcases Nat.lt_or_ge 7 W.heap.size with h' | h'
   · exact h'
   · rw [Array.getElem?_eq_none h'] at hv; cases hv
 exact this
end Go.Proofs.YtgpmclpgcmgajaaDoor
set_option maxRecDepth 100000
set_option linter.unusedVariables false
noncomputable section
namespace Go.Proofs.YtgpmclpgcmgajaaDoor
open Go.Tm Go.Ab
def zn9 : Env := ⟨[], [], []⟩
theorem ze1 : EnvsOK Tryd.prog zn9 := ⟨z2q _, z1w _, z1v _⟩
def z7v : Shp := ⟨26, 0, [], []⟩
def z7z : Shp := ⟨26, 0, [(4, .d .bool)], []⟩
def z2f : XS := .or (.exit 0) z7v.xe (.one .ret z7z.xe)
theorem zci : z2f.OK := XS.or_ok (z0f z7v) (XS.one_ok (z0f z7z))
def z2n : Shp := ⟨26, 0, [(0, .d (.sl .str)), (1, .d (.sl .str)), (5, .d (.int .i64))], []⟩
abbrev z5b := (List (List Int)) × (List (List Int)) × Int
abbrev z9a := (Unit) ⊕ (Bool)
def z5g (a : List (List Int)) (b : List (List Int)) (i : Int) : Option (z5b ⊕ z9a) :=
 z0i (List.length b) (
 bif ltI i (List.length b : Nat) then
 (idxI a i).bind fun x =>
 (idxI b i).bind fun x2 =>
 bif !(eqS x x2) then
 some (.inr (.inr false))
 else
 some (.inl (a, b, W64 (i + 1)))
 else
 some (.inr (.inl ())))
def z0q (s : z5b) : Option (z5b ⊕ z9a) := z5g s.1 s.2.1 s.2.2
theorem zcq : SoundD Tryd.prog (.loop (subC (bodyC Tryd.f29) [1, 1, 0, 1, 0, 0])) (loopD z2n.xe z2f (loopC z0q)) :=
 z5s (S := z2n.xe) (X := z2f) ze1 (h := .no) (z1n [] (by kernel_rfl) trivial) (z0f z2n) zci z0q (fun s => by kernel_rfl)
def zdx : Shp := ⟨1, 0, [(0, .d .bool)], []⟩
def zfj : XS := .one .ret zdx.xe
theorem zjt : zfj.OK := XS.one_ok (z0f zdx)
def zb6 (a : List (List Int)) (b : List (List Int)) : Option ((Bool)) :=
 z0i (List.length a) (
 z0i (List.length b) (
 bif ltI (List.length a : Nat) (List.length b : Nat) then
 some false
 else
 (loopC z0q (a, b, 0)).bind fun o =>
 Sum.elim (fun y =>
 some true) (fun y2 =>
 some y2) o))
def zgb : Sig := ⟨29, [.d (.sl .str), .d (.sl .str)], [], 0, zfj⟩
def zel (x : (List (List Int)) × (List (List Int))) : Option ((Bool)) := zb6 x.1 x.2
theorem zmi : FnOK Tryd.prog zgb zel :=
 fn_ok ze1 (h := (.two .no (.two .no (.two (.two .no (.over (loopD z2n.xe z2f (loopC z0q)))) .no)))) Tryd.func29 (z1n [.den (.loop (subC (bodyC Tryd.f29) [1, 1, 0, 1, 0, 0])) (loopD z2n.xe z2f (loopC z0q))] (by kernel_rfl) ⟨zcq, trivial⟩) (by kernel_rfl) zjt (fun x => by kernel_rfl)
def zne : Env := ⟨[(entQ zh9 zfi), (entQ zgb zel)], [], []⟩
theorem zkr : EnvsOK Tryd.prog zne := ⟨z0p (z1a znb) (z0p (z1a zmi) (z2q _)), z1w _, z1v _⟩
def zdz : Shp := ⟨1, 0, [(0, .d .bool)], []⟩
def zfr : XS := .one .ret zdz.xe
theorem zjr : zfr.OK := XS.one_ok (z0f zdz)
def z8o (t0 : List Int) (top : List Int) : Option ((Bool)) :=
 (z9v t0).bind fun r =>
 (z9v top).bind fun r2 =>
 bif eqI r.2 0 then
 bif eqI r2.2 0 then
 (zb6 r.1 r2.1).bind fun r3 =>
 some r3
 else
 some false
 else
 some false
def zfd : Sig := ⟨18, [.d .str, .d .str], [], 0, zfr⟩
def zev (x : (List Int) × (List Int)) : Option ((Bool)) := z8o x.1 x.2
theorem zm4 : FnOK Tryd.prog zfd zev :=
 fn_ok zkr (h := .no) Tryd.func18 (z1n [] (by kernel_rfl) trivial) (by kernel_rfl) zjr (fun x => by kernel_rfl)
def ziv : Env := ⟨[(entQ zhg zg4), (entQ zhf zg2), (entQ zcn zc1), (entQ zfd zev), (entQ zb9 za4)], [], []⟩
theorem zgi : EnvsOK Tryd.prog ziv := ⟨z0p (z1a zn8) (z0p (z1a zno) (z0p (z1a zg5) (z0p (z1a zm4) (z0p (z1a zct) (z2q _))))), z1w _, z1v _⟩
def zat : Shp := ⟨1, 0, [(0, .d .bool)], []⟩
def zc8 : XS := .one .ret zat.xe
theorem zfo : zc8.OK := XS.one_ok (z0f zat)
def zaa (a : List Int) (b : List Int) (c : List Int) : Option ((Bool)) :=
 (z8b).bind fun r =>
 bif !r then
 (z8b).bind fun r2 =>
 some r2
 else
 (za2 ([a, b, c] : List (List Int))).bind fun r3 =>
 bif !r3 then
 (z8b).bind fun r4 =>
 some r4
 else
 (z1c a b).bind fun r5 =>
 (z8o a b).bind fun r6 =>
 bif !(r5 == r6) then
 some false
 else
 (z1c b c).bind fun r7 =>
 (z8o b c).bind fun r8 =>
 bif !(r7 == r8) then
 some false
 else
 (z7k a).bind fun r9 =>
 (z1c a b).bind fun r10 =>
 bif !r10 then
 (z1c a a).bind fun r11 =>
 bif r11 == (eqI r9.2 0) then
 (z1c a ([47] : List Int)).bind fun r12 =>
 some (r12 == (eqI r9.2 0))
 else
 some false
 else
 (z1c b c).bind fun r13 =>
 bif !r13 then
 (z1c a a).bind fun r14 =>
 bif r14 == (eqI r9.2 0) then
 (z1c a ([47] : List Int)).bind fun r15 =>
 some (r15 == (eqI r9.2 0))
 else
 some false
 else
 (z1c a c).bind fun r16 =>
 bif r16 then
 (z1c a a).bind fun r17 =>
 bif r17 == (eqI r9.2 0) then
 (z1c a ([47] : List Int)).bind fun r18 =>
 some (r18 == (eqI r9.2 0))
 else
 some false
 else
 some false
def zhs : Sig := ⟨5, [.d .str, .d .str, .d .str], [], 0, zc8⟩
def zbi (x : (List Int) × (List Int) × (List Int)) : Option ((Bool)) := zaa x.1 x.2.1 x.2.2
theorem zhr : FnOK Tryd.prog zhs zbi :=
 fn_ok zgi (h := .no) Tryd.func5 (z1n [] (by kernel_rfl) trivial) (by kernel_rfl) zfo (fun x => by kernel_rfl)
end Go.Proofs.YtgpmclpgcmgajaaDoor
set_option maxRecDepth 100000
set_option linter.unusedVariables false
set_option linter.unusedSimpArgs false
namespace Go.Proofs.YtgpmclpgcmgajaaDoor
open Go.Tm Go.Ab Go.Lib
theorem zuh {A B : List (List Int)} (l1 : A.length ≤ 10) (l2 : B.length ≤ 10) : zb6 A B = some (B.isPrefixOf A) := by
 refine ok_is ?_
 unfold zb6
 repeat' first
   | (dsimp only [Int.toNat_natCast, List.length_nil])
   | with_reducible first | refine z1s ?_ | refine z1o ?_ | refine z0m ?_ | refine z1p ?_ | refine z0v ?_ | refine z2p ?_ | refine qs ?_ | refine qb ?_ | refine z2h ?_ | refine qw ?_ | refine z2i ?_ | refine z2j ?_ | refine qi ?_ | refine qg (h := ?_) | refine qx (h := ?_) | refine qy (h := ?_) | refine qa ?_ | refine qc ?_ | refine ql ?_ | refine qp ?_ | refine z1g ?_ | rfl
   | (with_reducible first | refine ok_lt ?_ ?_ | refine ok_le ?_ ?_ | refine z2g ?_ ?_ | refine z2l ?_ ?_ | refine z2k ?_ ?_ | refine qu ?_ ?_ | refine ok_if ?_ ?_) <;> intro _ <;> try (exfalso; omega)
 · have : B.isPrefixOf A = false := by
     cases hp : B.isPrefixOf A with
     | false => rfl
     | true => have := (zdf.1 hp).1; omega
   rw [this]
 · have hle : B.length ≤ A.length := by omega
   have hloop : loopC z0q (A, B, 0) = some (if diff A B B.length = true then .inr false else .inl ()) := by
     refine zld _ B.length (fun i => (A, B, (i : Int))) (fun i => !decide (A[i]? = B[i]?)) _ _ ?_ fun i hi => ?_
     · unfold z0q z5g
       dsimp only
       rw [z6e (by omega), ltI_f (by omega)]; rfl
     · unfold z0q z5g
       dsimp only
       rw [z6e (by omega), ltI_t (by omega), cond_true, zck hi, zck (show i < A.length by omega), z9b (by omega)]
       simp only [Option.bind_some]
       rw [getE hi, getE (show i < A.length by omega)]
       by_cases e : A[i] = B[i]
       · rw [eqS_t e, decide_eq_true (by rw [e])]; rfl
       · rw [eqS_f e, decide_eq_false (fun h => e (Option.some.inj h))]; rfl
   rw [hloop, zjw hle]
   cases B.isPrefixOf A <;> exact z0m (z0m rfl)
theorem zi0 {s top : List Int} (hs : Bs s) (ht : Bs top) (ls : s.length ≤ 1000) (lt : top.length ≤ 1000) : z8o s top = some (z4b s top) := by
 refine ok_is ?_
 unfold z8o z4b
 rw [zjx hs ls, zjx ht lt]
 have l1 := zep s
 have l2 := zep top
 generalize z2c s = A at *
 generalize z2c top = B at *
 simp only [Option.bind_some]
 rw [zuh l1 l2]
 repeat' first
   | (dsimp only [Int.toNat_natCast, List.length_nil])
   | with_reducible first | refine z1s ?_ | refine z1o ?_ | refine z0m ?_ | refine z1p ?_ | refine z0v ?_ | refine z2p ?_ | refine qs ?_ | refine qb ?_ | refine z2h ?_ | refine qw ?_ | refine z2i ?_ | refine z2j ?_ | refine qi ?_ | refine qg (h := ?_) | refine qx (h := ?_) | refine qy (h := ?_) | refine qa ?_ | refine qc ?_ | refine ql ?_ | refine qp ?_ | refine z1g ?_ | rfl
   | (with_reducible first | refine ok_lt ?_ ?_ | refine ok_le ?_ ?_ | refine z2g ?_ ?_ | refine z2l ?_ ?_ | refine z2k ?_ ?_ | refine qu ?_ ?_ | refine ok_if ?_ ?_) <;> intro _ <;> try (exfalso; omega)
 · rename_i h1 h2; rw [h1, h2]; rfl
 · rename_i h1 h2; rw [h1, decide_eq_false h2]; rfl
 · rename_i h; rw [decide_eq_false h]; rfl
theorem zs6 {a : List Int} : z4b a [47] = decide ((z2c a).2 = 0) := by
 unfold z4b
 have e : z2c [47] = ([], 0) := rfl
 rw [e]
 simp
theorem zs4 {a : List Int} : z4b a a = decide ((z2c a).2 = 0) := by
 unfold z4b
 have : (z2c a).1.isPrefixOf (z2c a).1 = true := by rw [List.isPrefixOf_iff_prefix]; exact List.prefix_rfl
 rw [this]
 simp
theorem zra {a b c : List Int} (h1 : z4b a b = true) (h2 : z4b b c = true) : z4b a c = true := by
 unfold z4b at *
 simp only [Bool.and_eq_true, decide_eq_true_eq, List.isPrefixOf_iff_prefix] at *
 exact ⟨⟨h1.1.1, h2.1.2⟩, h2.2.trans h1.2⟩
theorem zrl (a b c : List Int) (h1 : Bs a) (h2 : Bs b) (h3 : Bs c) (g1 : a.length ≤ maxLen) (g2 : b.length ≤ maxLen) (g3 : c.length ≤ maxLen) : zaa a b c = some true := by
 unfold zaa
 have hs : za2 [a, b, c] = some (zij [a, b, c]) := zxm (by unfold maxLen; simp) fun x hx => by
   rcases List.mem_cons.1 hx with rfl | hx
   · exact g1
   · rcases List.mem_cons.1 hx with rfl | hx
     · exact g2
     · simp at hx; subst hx; exact g3
 rw [zwb, hs]
 simp only [Option.bind_some, Bool.not_true, cond_false]
 cases hsh : zij [a, b, c] with
 | false => rfl
 | true =>
   unfold zij at hsh
   simp only [List.all_cons, List.all_nil, Bool.and_true, Bool.and_eq_true, decide_eq_true_eq] at hsh
   have br : Bs [47] := by unfold Bs; decide
   rw [zgl h1 (by omega), zan h1 h2 (by omega) (by omega), zan h2 h3 (by omega) (by omega), zan h1 h1 (by omega) (by omega), zan h1 h3 (by omega) (by omega),
     zi0 h1 h2 (by omega) (by omega), zi0 h2 h3 (by omega) (by omega), zan h1 br (by omega) (by simp), zs6, zs4]
   simp only [Option.bind_some, Bool.not_true, cond_false, beq_self_eq_true]
   cases e1 : z4b a b with
   | false => rfl
   | true =>
     cases e2 : z4b b c with
     | false => rfl
     | true => rw [zra e1 e2]; rfl
end Go.Proofs.YtgpmclpgcmgajaaDoor