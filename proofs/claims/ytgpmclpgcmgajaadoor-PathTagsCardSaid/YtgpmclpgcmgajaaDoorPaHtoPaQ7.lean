import Derived.Test.YtgpmclpgcmgajaaDoorPaAtoPaG
import Derived.Test.YtgpmclpgcmgajaaDoorRows
import Derived.Stop.LaidErr
import Derived.Lib.LaidTab
import Derived.ProofKit
import Derived.Lay
import Derived.LaidMore
set_option maxRecDepth 100000
set_option linter.unusedVariables false
set_option linter.unusedSimpArgs false
namespace Go.Proofs.YtgpmclpgcmgajaaDoor
open Go.Tm Go.Ab Go.Lib
def joinT (l : List (List Int)) : List Int := l.flatMap fun p => 47 :: p
def joinI (l : List (List Int)) : List Int := if l = [] then [47] else joinT l
theorem zb9 (p : List Int) (l : List (List Int)) : joinT (p :: l) = 47 :: (p ++ joinT l) := by simp [joinT]
theorem zf0 (a b : List UInt8) : nums (a ++ b) = nums a ++ nums b := by simp [nums]
theorem zq8 : ∀ (l : List (List Int)), (∀ p, p ∈ l → Bs p) → nums (joinTail [47] ((l.map ba).map (·.data.toList))) = joinT l
 | [], _ => rfl
 | p :: l, h => by
   have ih := zq8 l fun q hq => h q (by simp [hq])
   have e0 : (ba p).data.toList = p.map b8 := zbg p
   have e : joinTail [47] (((p :: l).map ba).map (·.data.toList)) = ([47] ++ p.map b8) ++ joinTail [47] ((l.map ba).map (·.data.toList)) := by
     simp [joinTail, e0]
   rw [e, zf0, ih, zf0, zhc (h p (by simp)), zb9]
   simp [nums]
theorem zte : ∀ (l : List (List Int)) (m : Nat), (∀ p, p ∈ l → p.length ≤ m) → (joinT l).length ≤ l.length * (m + 1)
 | [], m, _ => by simp [joinT]
 | p :: l, m, h => by
   have ih := zte l m fun q hq => h q (by simp [hq])
   have := h p (by simp)
   rw [zb9, List.length_cons, List.length_append, List.length_cons, Nat.succ_mul]
   omega
theorem zeb (l : List UInt8) : (nums l).length = l.length := by simp [nums]
theorem zvq {l : List (List Int)} (hb : ∀ p, p ∈ l → Bs p) (h1 : l.length ≤ 40) (h2 : ∀ p, p ∈ l → p.length ≤ 200) : zaj l = some (joinI l) := by
 have hJ : nums (joinL l [47]) = (joinI l).tail ∧ (joinL l [47]).length ≤ 8040 := by
   cases l with
   | nil => exact ⟨rfl, by decide⟩
   | cons p l =>
     have e : joinL (p :: l) [47] = p.map b8 ++ joinTail [47] ((l.map ba).map (·.data.toList)) := by
       unfold joinL
       have e0 : (ba p).data.toList = p.map b8 := zbg p
       have e1 : (ba [47]).data.toList = [47] := rfl
       rw [List.map_cons, List.map_cons, join_cons, e0, e1]
     have t := zq8 l fun q hq => hb q (by simp [hq])
     have e2 : nums (joinL (p :: l) [47]) = p ++ joinT l := by rw [e, zf0, zhc (hb p (by simp)), t]
     refine ⟨?_, ?_⟩
     · rw [e2]
       unfold joinI
       rw [if_neg (by simp), zb9]; rfl
     · rw [← zeb, e2, List.length_append]
       have := zte l 200 fun q hq => h2 q (by simp [hq])
       have := h2 p (by simp)
       simp only [List.length_cons] at h1
       omega
 have hne : joinI l = 47 :: (joinI l).tail := by
   unfold joinI
   split
   · rfl
   · cases l with
     | nil => rename_i h; exact absurd rfl h
     | cons p l => rw [zb9]; rfl
 unfold zaj zim
 rw [ble_t (by omega), ble_t (by omega)]
 simp only [Bool.and_self, cond_true, Option.bind_some]
 rw [hJ.1, z7l (by
   have := congrArg List.length hJ.1
   rw [zeb] at this
   simp only [List.length_cons, List.length_nil]
   omega)]
 rw [hne]; rfl
theorem zus : z2i = some true := by
 unfold z2i
 have b1 : Bs [47, 97, 47, 98, 126, 49, 46, 50, 48] := by unfold Bs; decide
 have b2 : Bs [47, 97, 47, 98] := by unfold Bs; decide
 have b3 : Bs [47, 97] := by unfold Bs; decide
 have e1 : z6i [47, 97, 47, 98, 126, 49, 46, 50, 48] = ([[97], [98, 126, 49, 46, 50, 48]], 0) := by decide
 have e2 : zl4 [47, 97, 47, 98] [47, 97] = true := by decide
 rw [zj0 b1 (by decide)]
 simp only [Option.bind_some]
 rw [ztk b2 b3 (by decide) (by decide), e1, e2]
 have e3 : zaj [[97], [98, 126, 49, 46, 50, 48]] = some [47, 97, 47, 98, 126, 49, 46, 50, 48] := by
   rw [zvq (by unfold Bs; decide) (by decide) (by decide)]; decide
 rw [e3]
 rfl
end Go.Proofs.YtgpmclpgcmgajaaDoor
set_option maxRecDepth 100000
set_option linter.unusedVariables false
namespace Go.Proofs.YtgpmclpgcmgajaaDoor
open Go.Ab Go.RowKit
theorem zrw (u : TypeId) (h : Tryd.prog.typeName? 3 u = some "*errors.errorString") : u = 105 :=
 typeName_ptr_named (nm := "errors.errorString") (by kernel_rfl) (by kernel_rfl) (by decide) u h
theorem zpv {W : World} (hL : laidMetH Tryd.prog Rows.pathSplitsRow.laid W) : gb ≤ W.heap.size ∧ Glob W := by
 have hL0 : laidMet Tryd.prog Rows.pathSplitsRow.laid W := by
   rw [MakeChecks.laidMetH_plain _ _ _ (by kernel_rfl)] at hL
   exact hL
 have h1 := hL0.tail
 have h2 := h1.tail
 have h3 := h2.tail
 have h4 := h3.tail
 have h5 := h4.tail
 have ht : Lib.TabIs Tryd.prog W "internal/strconv.uint64pow10" .u64 Lib.pow10Tab :=
   Lib.tabIs_of_head (g := 1) (t := 90) (e := 48) (n := 20) (by kernel_rfl) (by kernel_rfl) (by kernel_rfl) (by kernel_rfl) (by kernel_rfl) (by kernel_rfl) h2
 obtain ⟨a0, s0, hv0, -, -, -⟩ := laid_sentinel h4 (g := 3) (by kernel_rfl) (by kernel_rfl) Tryd.underlying53 zrw Tryd.underlying105 Tryd.underlying107 rfl rfl Tryd.underlying9 (by kernel_rfl) (by kernel_rfl)
 obtain ⟨a1, s1, hv1, -, -, -⟩ := laid_sentinel h5 (g := 2) (by kernel_rfl) (by kernel_rfl) Tryd.underlying53 zrw Tryd.underlying105 Tryd.underlying107 rfl rfl Tryd.underlying9 (by kernel_rfl) (by kernel_rfl)
 refine ⟨?_, ht, ⟨_, _, hv1⟩, ⟨_, _, hv0⟩⟩
 obtain ⟨ps, ⟨g, t, cs, fuel, p, q, hg, _, hv, _, _, _⟩, _⟩ := h1
 have hg7 : g = 7 := (Option.some.inj (hg.symm.trans (show Tryd.prog.globalNamed "math/bits.deBruijn64tab" = some 7 by kernel_rfl)))
 subst hg7
 unfold World.var? at hv
 rw [hg] at hv
 simp only [Option.bind_some] at hv
 have : 7 < W.heap.size := by
   rcases Nat.lt_or_ge 7 W.heap.size with h' | h'
   · exact h'
   · rw [Array.getElem?_eq_none h'] at hv; cases hv
 exact this
end Go.Proofs.YtgpmclpgcmgajaaDoor
set_option maxRecDepth 100000
set_option linter.unusedVariables false
noncomputable section
namespace Go.Proofs.YtgpmclpgcmgajaaDoor
open Go.Tm Go.Ab
def zqn : Env := ⟨[(entQ zev zd7), (entQ zc1 zax)], [], []⟩
theorem zmy : EnvsOK Tryd.prog zqn := ⟨z0n (z0z zhg) (z0n (z0z zhe) (z2w _)), z2c _, z2d _⟩
def zgq : Shp := ⟨1, 0, [(0, .d .str)], []⟩
def zk2 : XS := .one .ret zgq.xe
theorem zmh : zk2.OK := XS.one_ok (z1e zgq)
def zc7 (name : List Int) (id : T0) : Option (((List Int))) :=
 catG name ([126] : List Int) fun _ =>
 (z9v id.1).bind fun r =>
 catG (name ++ ([126] : List Int)) r fun _ =>
 catG ((name ++ ([126] : List Int)) ++ r) ([46] : List Int) fun _ =>
 (za0 (WU64 (id.2)) 10).bind fun r2 =>
 catG (((name ++ ([126] : List Int)) ++ r) ++ ([46] : List Int)) r2 fun _ =>
 some ((((name ++ ([126] : List Int)) ++ r) ++ ([46] : List Int)) ++ r2)
def zjq : Sig := ⟨19, [.d .str, .d c0], [], 0, zk2⟩
def zi1 (x : (List Int) × T0) : Option (((List Int))) := zc7 x.1 x.2
theorem zph : FnOK Tryd.prog zjq zi1 :=
 fn_ok zmy (h := .no) Tryd.func19 (z2r [] (by kernel_rfl) trivial) (by kernel_rfl) zmh (fun x => by kernel_rfl)
def zov : Env := ⟨[(entQ zev zd7)], [], []⟩
theorem zmn : EnvsOK Tryd.prog zov := ⟨z0n (z0z zhg) (z2w _), z2c _, z2d _⟩
def zf5 : Shp := ⟨1, 0, [(0, .d .str)], []⟩
def zhv : XS := .one .ret zf5.xe
theorem zkz : zhv.OK := XS.one_ok (z1e zf5)
def zct (name : List Int) (id : T0) : Option (((List Int))) :=
 catG name ([126] : List Int) fun _ =>
 (z9v id.1).bind fun r =>
 catG (name ++ ([126] : List Int)) r fun _ =>
 catG ((name ++ ([126] : List Int)) ++ r) ([46] : List Int) fun _ =>
 (z9v (W64 (id.2))).bind fun r2 =>
 catG (((name ++ ([126] : List Int)) ++ r) ++ ([46] : List Int)) r2 fun _ =>
 some ((((name ++ ([126] : List Int)) ++ r) ++ ([46] : List Int)) ++ r2)
def zhm : Sig := ⟨20, [.d .str, .d c0], [], 0, zhv⟩
def zgg (x : (List Int) × T0) : Option (((List Int))) := zct x.1 x.2
theorem zol : FnOK Tryd.prog zhm zgg :=
 fn_ok zmn (h := .no) Tryd.func20 (z2r [] (by kernel_rfl) trivial) (by kernel_rfl) zkz (fun x => by kernel_rfl)
def zie : Env := ⟨[(entQ zf3 zdi), (entQ zjq zi1), (entQ zhm zgg), (entQ zd4 zc5), (entQ zg2 zf1)], [], []⟩
theorem zfr : EnvsOK Tryd.prog zie := ⟨z0n (z0z zl9) (z0n (z0z zph) (z0n (z0z zol) (z0n (z0z zfl) (z0n (z0z zmq) (z2w _))))), z2c _, z2d _⟩
def zaf : Shp := ⟨1, 0, [(0, .d .bool)], []⟩
def zbz : XS := .one .ret zaf.xe
theorem zfh : zbz.OK := XS.one_ok (z1e zaf)
def za7 (name : List Int) (a : T0) (b : T0) : Option ((Bool)) :=
 (z2i).bind fun r =>
 bif !r then
 (z2i).bind fun r2 =>
 some r2
 else
 z0q (List.length name) (
 bif ltI 100 (List.length name : Nat) then
 (z2i).bind fun r3 =>
 some r3
 else
 bif ltI a.1 0 then
 (z2i).bind fun r4 =>
 some r4
 else
 bif ltI b.1 0 then
 (z2i).bind fun r5 =>
 some r5
 else
 bif ltI 1000 a.1 then
 (z2i).bind fun r6 =>
 some r6
 else
 bif ltI 1000 b.1 then
 (z2i).bind fun r7 =>
 some r7
 else
 (zc7 name a).bind fun r8 =>
 (zc7 name b).bind fun r9 =>
 (zct name a).bind fun r10 =>
 bif eqS r8 r10 then
 bif (eqS r8 r9) == (eqU c0 a b) then
 (zae r8).bind fun r11 =>
 (z8t name).bind fun r12 =>
 bif r11 == r12 then
 (z8t r8).bind fun r13 =>
 some (!r13)
 else
 some false
 else
 some false
 else
 some false)
def zif : Sig := ⟨7, [.d .str, .d c0, .d c0], [], 0, zbz⟩
def zay (x : (List Int) × T0 × T0) : Option ((Bool)) := za7 x.1 x.2.1 x.2.2
theorem zhd : FnOK Tryd.prog zif zay :=
 fn_ok zfr (h := .no) Tryd.func7 (z2r [] (by kernel_rfl) trivial) (by kernel_rfl) zfh (fun x => by kernel_rfl)
end Go.Proofs.YtgpmclpgcmgajaaDoor
set_option maxRecDepth 100000
set_option linter.unusedVariables false
set_option linter.unusedSimpArgs false
namespace Go.Proofs.YtgpmclpgcmgajaaDoor
open Go.Tm Go.Ab Go.Lib
def dec (u : Nat) : List Int := nums (decDigits u)
theorem zt3 {u : Nat} (h : u < 10) : dec u = [((48 + u : Nat) : Int)] := by
 unfold dec
 rw [decDigits_one h]
 simp only [nums, List.map_cons, List.map_nil]
 rw [UInt8.toNat_ofNat']
 congr 1; omega
theorem zw2 {u : Nat} (h : ¬ u < 10) : dec u = dec (u / 10) ++ [((48 + u % 10 : Nat) : Int)] := by
 unfold dec
 rw [decDigits, dif_neg h, zf0]
 simp only [nums, List.map_cons, List.map_nil]
 rw [UInt8.toNat_ofNat']
 congr 2
 omega
theorem zde : ∀ (n u : Nat), u ≤ n → (dec u).all isD = true ∧ val 0 (dec u) = u
 | n, u, h => by
   by_cases h1 : u < 10
   · rw [zt3 h1]
     refine ⟨?_, ?_⟩
     · simp [isD]; omega
     · simp [val]; omega
   · match n, h with
     | 0, h => omega
     | n + 1, h =>
       have ih := zde n (u / 10) (by omega)
       rw [zw2 h1]
       refine ⟨?_, ?_⟩
       · rw [List.all_append, ih.1, List.all_cons]
         simp [isD]; omega
       · rw [ziv, ih.2]; omega
theorem zu9 (u : Nat) : lead (dec u) = false ∧ dec u ≠ [] := by
 have h := ziw u u (Nat.le_refl _)
 refine ⟨?_, fun e => h.2 (by unfold dec nums at e; simpa using e)⟩
 unfold lead
 by_cases h2 : 2 ≤ (dec u).length
 · rw [decide_eq_true h2, Bool.true_and, decide_eq_false_iff_not]
   have h3 := h.1 (by unfold dec at h2; rw [zeb] at h2; exact h2)
   intro e
   apply h3
   unfold dec nums at e
   rw [List.head?_map] at e
   cases hd : (decDigits u).head? with
   | none => rw [hd] at e; cases e
   | some b =>
     rw [hd] at e
     have e : (b.toNat : Int) = 48 := Option.some.inj e
     have : b.toNat = 48 := by omega
     rw [show b = 48 from UInt8.toNat_inj.1 this]
 · rw [decide_eq_false h2]; rfl
theorem zlx {u : Nat} (h : u ≤ 4294967295) : canon (dec u) = true := by
 have h1 := zde u u (Nat.le_refl _)
 have h2 := zu9 u
 unfold canon
 rw [h1.1, h1.2, h2.1, decide_eq_true (by omega)]
 simp [h2.2]
theorem zpw {u v : Nat} (h : dec u = dec v) : u = v := by
 have h1 := (zde u u (Nat.le_refl _)).2
 have h2 := (zde v v (Nat.le_refl _)).2
 rw [h, h2] at h1
 omega
theorem zry (u : Nat) : Bs (dec u) := zdz _
theorem zk9 (u : Nat) : ∀ x, x ∈ dec u → x ≠ 46 := zsj (zde u u (Nat.le_refl _)).1
theorem nd_le : ∀ (k u : Nat), u < 10 ^ (k + 1) → nDigits u ≤ k + 1
 | 0, u, h => by rw [nDigits_small (by simpa using h)]; exact Nat.le_refl _
 | k + 1, u, h => by
   by_cases h1 : u < 10
   · rw [nDigits_small h1]; omega
   · rw [nDigits_big h1]
     have := nd_le k (u / 10) (by rw [Nat.pow_succ] at h; omega)
     omega
theorem zcq {u : Nat} (h : u ≤ 4294967295) : (dec u).length ≤ 10 := by
 unfold dec
 rw [zeb, decDigits_length]
 exact nd_le 9 u (by omega)
def tagI (name : List Int) (r s : Nat) : List Int := name ++ 126 :: (dec r ++ 46 :: dec s)
theorem zt6 {name : List Int} {id : T0} (hl : name.length ≤ 100) (h1 : 0 ≤ id.1) (h2 : id.1 ≤ 1000) (h3 : 0 ≤ id.2) (h4 : id.2 ≤ 4294967295) : zc7 name id = some (tagI name id.1.toNat id.2.toNat) ∧ zct name id = some (tagI name id.1.toNat id.2.toNat) := by
 have e1 : itoa id.1 = decDigits id.1.toNat := by unfold itoa; rw [if_neg (by omega)]
 have e2 : itoa id.2 = decDigits id.2.toNat := by unfold itoa; rw [if_neg (by omega)]
 have l1 := zcq (u := id.1.toNat) (by omega)
 have l2 := zcq (u := id.2.toNat) (by omega)
 constructor
 · unfold zc7 z9v za0
   rw [zw3 (by omega), eqI_t rfl, e1]
   have : nums (decDigits id.1.toNat) = dec id.1.toNat := rfl
   have t2 : nums (decDigits id.2.toNat) = dec id.2.toNat := rfl
   simp only [Option.bind_some, cond_true]
   rw [this, t2, z7l (by simp; omega), z7l (by simp; omega), z7l (by simp; omega), z7l (by simp; omega)]
   unfold tagI
   simp
 · unfold zct z9v
   rw [zjd (by omega), e1, e2]
   have : nums (decDigits id.1.toNat) = dec id.1.toNat := rfl
   have t2 : nums (decDigits id.2.toNat) = dec id.2.toNat := rfl
   simp only [Option.bind_some, cond_true]
   rw [this, t2, z7l (by simp; omega), z7l (by simp; omega), z7l (by simp; omega), z7l (by simp; omega)]
   unfold tagI
   simp
theorem zvg {name : List Int} {r s r' s' : Nat} : tagI name r s = tagI name r' s' ↔ r = r' ∧ s = s' := by
 constructor
 · intro h
   unfold tagI at h
   have h := (List.cons.inj (List.append_cancel_left h)).2
   have c1 := z8f 46 (dec r) (dec s) (zk9 r)
   have c2 := z8f 46 (dec r') (dec s') (zk9 r')
   rw [h, c2] at c1
   have := Prod.mk.inj c1
   exact ⟨zpw this.1.symm, zpw (Prod.mk.inj this.2).1.symm⟩
 · rintro ⟨rfl, rfl⟩; rfl
theorem no126 {s : List Int} (h : canon s = true) : (126 : Int) ∉ s := fun hm => by
 have := List.all_eq_true.1 (zne h).1 126 hm
 revert this; decide
theorem ztw {name : List Int} {r s : Nat} (h1 : r ≤ 4294967295) (h2 : s ≤ 4294967295) : partI (tagI name r s) = nameI name := by
 have hlost : tagI name r s ≠ lostI := fun e => by
   have : (126 : Int) ∈ tagI name r s := by unfold tagI; simp
   rw [e] at this
   revert this; decide
 unfold partI
 rw [decide_eq_false hlost, Bool.false_or]
 rcases z6m 126 name with ⟨g1, g2⟩ | ⟨a, b, g1, g2, g3⟩
 · have hc : cutI 126 (tagI name r s) = (name, dec r ++ 46 :: dec s, true) := z8f 126 name _ g1
   rw [hc]
   dsimp only
   rw [z8f 46 (dec r) (dec s) (zk9 r), zlx h1, zlx h2]
   simp
 · have hn : nameI name = false := by
     cases h : nameI name with
     | false => rfl
     | true => exact absurd rfl (zpy h 126 (by rw [g2]; simp))
   have hc : cutI 126 (tagI name r s) = (a, b ++ 126 :: (dec r ++ 46 :: dec s), true) := by
     have : tagI name r s = a ++ 126 :: (b ++ 126 :: (dec r ++ 46 :: dec s)) := by unfold tagI; rw [g2]; simp
     rw [this]; exact z8f 126 a _ g1
   rw [hc, hn]
   dsimp only
   have htag : ((cutI 46 (b ++ 126 :: (dec r ++ 46 :: dec s))).2.2 && canon (cutI 46 (b ++ 126 :: (dec r ++ 46 :: dec s))).1 && canon (cutI 46 (b ++ 126 :: (dec r ++ 46 :: dec s))).2.1) = false := by
     rcases z6m 46 b with ⟨k1, _⟩ | ⟨c, d, k1, k2, _⟩
     · have e : b ++ 126 :: (dec r ++ 46 :: dec s) = (b ++ 126 :: dec r) ++ 46 :: dec s := by simp
       rw [e, z8f 46 _ _ (fun x hx => by
         rcases List.mem_append.1 hx with hx | hx
         · exact k1 x hx
         · rcases List.mem_cons.1 hx with rfl | hx
           · decide
           · exact zk9 r x hx)]
       dsimp only
       cases hcn : canon (b ++ 126 :: dec r) with
       | false => simp
       | true => exact absurd (by simp) (no126 hcn)
     · have e : b ++ 126 :: (dec r ++ 46 :: dec s) = c ++ 46 :: (d ++ 126 :: (dec r ++ 46 :: dec s)) := by rw [k2]; simp
       rw [e, z8f 46 _ _ k1]
       dsimp only
       cases hcn : canon (d ++ 126 :: (dec r ++ 46 :: dec s)) with
       | false => simp
       | true => exact absurd (by simp) (no126 hcn)
   rw [htag]
   simp
theorem zwr {name : List Int} (hb : Bs name) (r s : Nat) : Bs (tagI name r s) := fun x hx => by
 unfold tagI at hx
 simp only [List.mem_append, List.mem_cons] at hx
 rcases hx with hx | rfl | hx | rfl | hx
 · exact hb x hx
 · decide
 · exact zry r x hx
 · decide
 · exact zry s x hx
theorem zwe {name : List Int} (hl : name.length ≤ 100) {r s : Nat} (h1 : r ≤ 4294967295) (h2 : s ≤ 4294967295) : (tagI name r s).length ≤ 1000 := by
 have l1 := zcq h1
 have l2 := zcq h2
 unfold tagI
 simp
 omega
theorem zrz (name : List Int) (a b : T0) (h1 : Bs name) (g1 : name.length ≤ maxLen) (ha : 0 ≤ a.2 ∧ a.2 ≤ 4294967295) (hb : 0 ≤ b.2 ∧ b.2 ≤ 4294967295) : za7 name a b = some true := by
 refine ok_is ?_
 unfold maxLen at g1
 unfold za7
 rw [zus]
 repeat' first
   | (dsimp only [Int.toNat_natCast, List.length_nil])
   | with_reducible first | refine z9m ?_ | refine za2 ?_ | refine z2u ?_ | refine z9r ?_ | refine z7x ?_ | refine zcd ?_ | refine qs ?_ | refine qb ?_ | refine zc8 ?_ | refine qw ?_ | refine zcg ?_ | refine zcb ?_ | refine qi ?_ | refine qg (h := ?_) | refine qx (h := ?_) | refine qy (h := ?_) | refine qa ?_ | refine qc ?_ | refine ql ?_ | refine qp ?_ | refine za6 ?_ | rfl
   | (with_reducible first | refine ok_lt ?_ ?_ | refine ok_le ?_ ?_ | refine zcc ?_ ?_ | refine zbx ?_ ?_ | refine zce ?_ ?_ | refine qu ?_ ?_ | refine ok_if ?_ ?_) <;> intro _ <;> try (exfalso; omega)
 obtain ⟨a1, a2⟩ := a
 obtain ⟨b1, b2⟩ := b
 dsimp only at *
 obtain ⟨p1, p2⟩ := zt6 (name := name) (id := (a1, a2)) (by omega) (by omega) (by omega) ha.1 ha.2
 obtain ⟨p3, _⟩ := zt6 (name := name) (id := (b1, b2)) (by omega) (by omega) (by omega) hb.1 hb.2
 dsimp only at p1 p2 p3
 have ht := zwr h1 a1.toNat a2.toNat
 have hl := zwe (name := name) (by omega) (r := a1.toNat) (s := a2.toNat) (by omega) (by omega)
 have hpt := ztw (name := name) (r := a1.toNat) (s := a2.toNat) (by omega) (by omega)
 have hno : nameI (tagI name a1.toNat a2.toNat) = false := by
   cases h : nameI (tagI name a1.toNat a2.toNat) with
   | false => rfl
   | true => exact absurd rfl (zpy h 126 (by unfold tagI; simp))
 have heq : (eqS (tagI name a1.toNat a2.toNat) (tagI name b1.toNat b2.toNat) == eqU c0 (a1, a2) (b1, b2)) = true := by
   have hq : eqU c0 (a1, a2) (b1, b2) = true ↔ ((a1, a2) : T0) = (b1, b2) := z9z (u := c0) (by with_unfolding_all exact rfl)
   refine beq_iff_eq.2 (Bool.eq_iff_iff.2 ⟨fun h => hq.2 ?_, fun h => eqS_t ?_⟩)
   · obtain ⟨q1, q2⟩ := zvg.1 (of_decide_eq_true h)
     have e1 : a1 = b1 := by omega
     have e2 : a2 = b2 := by omega
     rw [e1, e2]
   · have := hq.1 h
     cases this
     rfl
 rw [p1, p2, p3]
 simp only [Option.bind_some]
 refine z2u ?_
 rw [eqS_t rfl, cond_true, heq, cond_true, zq9 ht hl, hpt, zjm h1 (by omega), zjm ht hl, hno]
 simp only [Option.bind_some, beq_self_eq_true, cond_true]
 exact z2u rfl
end Go.Proofs.YtgpmclpgcmgajaaDoor