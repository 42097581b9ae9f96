import Derived.Test.YtgpmclpgcmgajaaDoorPaAtoPaG
import Derived.Test.YtgpmclpgcmgajaaDoorRows
import Derived.Stop.LaidErr
import Derived.Lib.LaidTab
import Derived.ProofKit
import Derived.Lay
import Derived.LaidMore
set_option maxRecDepth 100000
set_option linter.unusedVariables false
set_option linter.unusedSimpArgs false
namespace Go.Proofs.YtgpmclpgcmgajaaDoor
open Go.Tm Go.Ab Go.Lib
def joinT (l : List (List Int)) : List Int := l.flatMap fun p => 47 :: p
def joinI (l : List (List Int)) : List Int := if l = [] then [47] else joinT l
theorem z7r (p : List Int) (l : List (List Int)) : joinT (p :: l) = 47 :: (p ++ joinT l) := by simp [joinT]
theorem zky (a b : List UInt8) : nums (a ++ b) = nums a ++ nums b := by simp [nums]
theorem zsg : ∀ (l : List (List Int)), (∀ p, p ∈ l → Bs p) → nums (joinTail [47] ((l.map ba).map (·.data.toList))) = joinT l
 | [], _ => rfl
 | p :: l, h => by
   have ih := zsg l fun q hq => h q (by simp [hq])
   have e0 : (ba p).data.toList = p.map b8 := zdw p
   have e : joinTail [47] (((p :: l).map ba).map (·.data.toList)) = ([47] ++ p.map b8) ++ joinTail [47] ((l.map ba).map (·.data.toList)) := by
     simp [joinTail, e0]
   rw [e, zky, ih, zky, zji (h p (by simp)), z7r]
   simp [nums]
theorem zmp : ∀ (l : List (List Int)) (m : Nat), (∀ p, p ∈ l → p.length ≤ m) → (joinT l).length ≤ l.length * (m + 1)
 | [], m, _ => by simp [joinT]
 | p :: l, m, h => by
   have ih := zmp l m fun q hq => h q (by simp [hq])
   have := h p (by simp)
   rw [z7r, List.length_cons, List.length_append, List.length_cons, Nat.succ_mul]
   omega
theorem zpo (l : List UInt8) : (nums l).length = l.length := by simp [nums]
theorem zsf {l : List (List Int)} (hb : ∀ p, p ∈ l → Bs p) (h1 : l.length ≤ 40) (h2 : ∀ p, p ∈ l → p.length ≤ 200) : zar l = some (joinI l) := by
 have hJ : nums (joinL l [47]) = (joinI l).tail ∧ (joinL l [47]).length ≤ 8040 := by
   cases l with
   | nil => exact ⟨rfl, by decide⟩
   | cons p l =>
     have e : joinL (p :: l) [47] = p.map b8 ++ joinTail [47] ((l.map ba).map (·.data.toList)) := by
       unfold joinL
       have e0 : (ba p).data.toList = p.map b8 := zdw p
       have e1 : (ba [47]).data.toList = [47] := rfl
       rw [List.map_cons, List.map_cons, join_cons, e0, e1]
     have t := zsg l fun q hq => hb q (by simp [hq])
     have e2 : nums (joinL (p :: l) [47]) = p ++ joinT l := by rw [e, zky, zji (hb p (by simp)), t]
     refine ⟨?_, ?_⟩
     · rw [e2]
       unfold joinI
       rw [if_neg (by simp), z7r]; rfl
     · rw [← zpo, e2, List.length_append]
       have := zmp l 200 fun q hq => h2 q (by simp [hq])
       have := h2 p (by simp)
       simp only [List.length_cons] at h1
       omega
 have hne : joinI l = 47 :: (joinI l).tail := by
   unfold joinI
   split
   · rfl
   · cases l with
     | nil => rename_i h; exact absurd rfl h
     | cons p l => rw [z7r]; rfl
 unfold zar zlb
 rw [ble_t (by omega), ble_t (by omega)]
 simp only [Bool.and_self, cond_true, Option.bind_some]
 rw [hJ.1, zw8 (by
   have := congrArg List.length hJ.1
   rw [zpo] at this
   simp only [List.length_cons, List.length_nil]
   omega)]
 rw [hne]; rfl
theorem zwz : partI [] = false := by decide
theorem zzq : okI 47 = false := by decide
theorem zvz : isD 47 = false := by decide
theorem zz7 {p : List Int} (h : partI p = true) : ∀ x, x ∈ p → x ≠ 47 := by
 intro x hx e
 subst e
 unfold partI at h
 simp only [Bool.or_eq_true, decide_eq_true_eq, Bool.and_eq_true, Bool.not_eq_true'] at h
 rcases h with h | ⟨h1, h2⟩
 · subst h; revert hx; decide
 · have n1 : (47 : Int) ∉ (cutI 126 p).1 := fun hm => by
     unfold nameI at h1
     simp only [Bool.and_eq_true] at h1
     have := List.all_eq_true.1 h1.2 47 hm
     rw [zzq] at this; cases this
   rcases z5y 126 p with ⟨_, g2⟩ | ⟨a, b, _, g2, g3⟩
   · rw [g2] at n1; exact n1 hx
   · rw [g3] at n1 h2
     rcases h2 with h2 | h2
     · cases h2
     · rw [g2, List.mem_append, List.mem_cons] at hx
       rcases hx with hx | hx | hx
       · exact n1 hx
       · revert hx; decide
       · dsimp only at h2
         rcases z5y 46 b with ⟨_, k2⟩ | ⟨c, d, _, k2, k3⟩
         · rw [k2] at h2; cases h2.1.1
         · rw [k3] at h2
           have d1 := (z9f h2.1.2).1
           have d2 := (z9f h2.2).1
           rw [k2, List.mem_append, List.mem_cons] at hx
           rcases hx with hx | hx | hx
           · have := List.all_eq_true.1 d1 47 hx
             rw [zvz] at this; cases this
           · revert hx; decide
           · have := List.all_eq_true.1 d2 47 hx
             rw [zvz] at this; cases this
theorem zk6 : ∀ (p : List Int) (l : List (List Int)), (∀ q, q ∈ p :: l → ∀ x, x ∈ q → x ≠ 47) → z2t 47 (p ++ joinT l) = p :: l
 | p, [], h => by
   have : p ++ joinT [] = p := by simp [joinT]
   rw [this, zc6 47 p (h p (by simp))]
 | p, q :: l, h => by
   rw [z7r, zd0 47 p _ (h p (by simp)), zk6 q l fun r hr => h r (by simp at hr ⊢; exact .inr hr)]
theorem ztd {l : List (List Int)} (h1 : l.length ≤ 10) (h2 : (joinI l).length ≤ 120) (h3 : ∀ p, p ∈ l → partI p = true) : z6u (joinI l) = (l, 0) := by
 cases l with
 | nil => rfl
 | cons p l =>
   have e : joinI (p :: l) = 47 :: (p ++ joinT l) := by unfold joinI; rw [if_neg (by simp), z7r]
   rw [e] at h2 ⊢
   have hne : ¬ (47 :: (p ++ joinT l) : List Int) = [47] := by
     intro h
     have hp : p = [] := by
       have := (List.cons.inj h).2
       exact (List.append_eq_nil_iff.1 this).1
     have := h3 p (by simp)
     rw [hp, zwz] at this; cases this
   have hpc : z2t 47 (47 :: (p ++ joinT l)).tail = p :: l := zk6 p l fun q hq => zz7 (h3 q hq)
   unfold z6u
   rw [if_neg (by rintro (h | h); omega; exact h rfl), if_neg hne, hpc, if_neg]
   rintro (h | h)
   · omega
   · have : (p :: l).all partI = true := List.all_eq_true.2 h3
     rw [this] at h; cases h
theorem zxm : z8c = some true := by
 unfold z8c
 have b1 : Bs [47, 97, 47, 98, 126, 49, 46, 50, 48] := by unfold Bs; decide
 have b2 : Bs [47, 97, 47, 98] := by unfold Bs; decide
 have b3 : Bs [47, 97] := by unfold Bs; decide
 have e1 : z6u [47, 97, 47, 98, 126, 49, 46, 50, 48] = ([[97], [98, 126, 49, 46, 50, 48]], 0) := by decide
 have e2 : zmx [47, 97, 47, 98] [47, 97] = true := by decide
 rw [zeb b1 (by decide)]
 simp only [Option.bind_some]
 rw [zua b2 b3 (by decide) (by decide), e1, e2]
 have e3 : zar [[97], [98, 126, 49, 46, 50, 48]] = some [47, 97, 47, 98, 126, 49, 46, 50, 48] := by
   rw [zsf (by unfold Bs; decide) (by decide) (by decide)]; decide
 rw [e3]
 rfl
end Go.Proofs.YtgpmclpgcmgajaaDoor
set_option maxRecDepth 100000
set_option linter.unusedVariables false
namespace Go.Proofs.YtgpmclpgcmgajaaDoor
open Go.Ab Go.RowKit
theorem zu6 (u : TypeId) (h : Tryd.prog.typeName? 3 u = some "*errors.errorString") : u = 105 :=
 typeName_ptr_named (nm := "errors.errorString") (by kernel_rfl) (by kernel_rfl) (by decide) u h
theorem zsi {W : World} (hL : laidMetH Tryd.prog Rows.pathSplitsRow.laid W) : gb ≤ W.heap.size ∧ Glob W := by
 have hL0 : laidMet Tryd.prog Rows.pathSplitsRow.laid W := by
   rw [MakeChecks.laidMetH_plain _ _ _ (by kernel_rfl)] at hL
   exact hL
 have h1 := hL0.tail
 have h2 := h1.tail
 have h3 := h2.tail
 have h4 := h3.tail
 have h5 := h4.tail
 have ht : Lib.TabIs Tryd.prog W "internal/strconv.uint64pow10" .u64 Lib.pow10Tab :=
   Lib.tabIs_of_head (g := 1) (t := 90) (e := 48) (n := 20) (by kernel_rfl) (by kernel_rfl) (by kernel_rfl) (by kernel_rfl) (by kernel_rfl) (by kernel_rfl) h2
 obtain ⟨a0, s0, hv0, -, -, -⟩ := laid_sentinel h4 (g := 3) (by kernel_rfl) (by kernel_rfl) Tryd.underlying53 zu6 Tryd.underlying105 Tryd.underlying107 rfl rfl Tryd.underlying9 (by kernel_rfl) (by kernel_rfl)
 obtain ⟨a1, s1, hv1, -, -, -⟩ := laid_sentinel h5 (g := 2) (by kernel_rfl) (by kernel_rfl) Tryd.underlying53 zu6 Tryd.underlying105 Tryd.underlying107 rfl rfl Tryd.underlying9 (by kernel_rfl) (by kernel_rfl)
 refine ⟨?_, ht, ⟨_, _, hv1⟩, ⟨_, _, hv0⟩⟩
 obtain ⟨ps, ⟨g, t, cs, fuel, p, q, hg, _, hv, _, _, _⟩, _⟩ := h1
 have hg7 : g = 7 := (Option.some.inj (hg.symm.trans (show Tryd.prog.globalNamed "math/bits.deBruijn64tab" = some 7 by kernel_rfl)))
 subst hg7
 unfold World.var? at hv
 rw [hg] at hv
 simp only [Option.bind_some] at hv
 have : 7 < W.heap.size := by
   rcases Nat.lt_or_ge 7 W.heap.size with h' | h'
   · exact h'
   · rw [Array.getElem?_eq_none h'] at hv; cases hv
 exact this
end Go.Proofs.YtgpmclpgcmgajaaDoor
set_option maxRecDepth 100000
set_option linter.unusedVariables false
noncomputable section
namespace Go.Proofs.YtgpmclpgcmgajaaDoor
open Go.Tm Go.Ab
def zpj : Env := ⟨[], [], []⟩
theorem zfj : EnvsOK Tryd.prog zpj := ⟨z2q _, z1w _, z1v _⟩
def z8z : Shp := ⟨21, 0, [(3, .d .str)], []⟩
def z3d : XS := .one (.exit 0) z8z.xe
theorem zd8 : z3d.OK := XS.one_ok (z0g z8z)
def z2z : Shp := ⟨21, 0, [(0, .d (.sl .str)), (3, .d .str), (4, .d (.int .i64))], []⟩
abbrev z6h := (List (List Int)) × (List Int) × Int
abbrev za6 := ((List Int))
def z6c (l : List (List Int)) (t3 : List Int) (i : Int) : Option (z6h ⊕ za6) :=
 z0i (List.length l) (
 bif ltI i (List.length l : Nat) then
 (idxI l i).bind fun x =>
 catG ([47] : List Int) x fun _ =>
 catG t3 (([47] : List Int) ++ x) fun _ =>
 some (.inl (l, t3 ++ (([47] : List Int) ++ x), W64 (i + 1)))
 else
 some (.inr t3))
def z1e (s : z6h) : Option (z6h ⊕ za6) := z6c s.1 s.2.1 s.2.2
theorem ze5 : SoundD Tryd.prog (.loop (subC (bodyC Tryd.f16) [1, 1, 0, 1, 0, 0])) (loopD z2z.xe z3d (loopC z1e)) :=
 z4r (S := z2z.xe) (X := z3d) zfj (h := .no) (z1m [] (by kernel_rfl) trivial) (z0g z2z) zd8 z1e (fun s => by kernel_rfl)
def zfo : Shp := ⟨1, 0, [(0, .d .str)], []⟩
def zhw : XS := .one .ret zfo.xe
theorem zlx : zhw.OK := XS.one_ok (z0g zfo)
def zd2 (l : List (List Int)) : Option (((List Int))) :=
 (loopC z1e (l, ([] : List Int), 0)).bind fun o =>
 bif eqS o ([] : List Int) then
 some ([47] : List Int)
 else
 some o
def zia : Sig := ⟨16, [.d (.sl .str)], [], 0, zhw⟩
def zhb (x : (List (List Int))) : Option (((List Int))) := zd2 x
theorem zp3 : FnOK Tryd.prog zia zhb :=
 fn_ok zfj (h := (.two .no (.two .no (.two (.two .no (.over (loopD z2z.xe z3d (loopC z1e)))) .no)))) Tryd.func16 (z1m [.den (.loop (subC (bodyC Tryd.f16) [1, 1, 0, 1, 0, 0])) (loopD z2z.xe z3d (loopC z1e))] (by kernel_rfl) ⟨ze5, trivial⟩) (by kernel_rfl) zlx (fun x => by kernel_rfl)
def zju : Env := ⟨[(entQ zhg zg6), (entQ zhn zg3), (entQ zf6 ze2), (entQ zia zhb), (entQ zic zh8), (entQ zb6 zae), (entQ zhv zhd)], [], []⟩
theorem zbn : EnvsOK Tryd.prog zju := ⟨z0q (z1g zn4) (z0q (z1g zni) (z0q (z1g zio) (z0q (z1g zp3) (z0q (z1g zow) (z0q (z1g zcr) (z0q (z1g zp6) (z2q _))))))), z1w _, z1v _⟩
def z9d : Shp := ⟨73, 0, [(0, .d (.sl .str)), (3, .d .str)], []⟩
def z8n : Shp := ⟨73, 0, [(2, .d .bool)], []⟩
def z6f : XS := .or .normal z9d.xe (.one .ret z8n.xe)
theorem zda : z6f.OK := XS.or_ok (z0g z9d) (XS.one_ok (z0g z8n))
def z7z : Shp := ⟨73, 0, [(0, .d (.sl .str)), (3, .d .str), (4, .d .bool)], []⟩
def z5f : XS := .one .normal z7z.xe
theorem zcg : z5f.OK := XS.one_ok (z0g z7z)
def z4l : Shp := ⟨73, 0, [(0, .d (.sl .str)), (3, .d .str), (4, .d .bool)], []⟩
def z0u : XS := .one (.exit 0) z4l.xe
theorem z8w : z0u.OK := XS.one_ok (z0g z4l)
def z0t : Shp := ⟨73, 0, [(0, .d (.sl .str)), (3, .d .str), (4, .d .bool), (45, .d (.sl .str)), (46, .d (.int .i64)), (47, .d (.int .i64))], []⟩
abbrev z3b := (List (List Int)) × (List Int) × Bool × (List (List Int)) × Int × Int
abbrev z4v := ((List (List Int)) × (List Int) × Bool)
def z2x (l : List (List Int)) (t3 : List Int) (fine : Bool) (t45 : List (List Int)) (t46 : Int) (t47 : Int) : Option (z3b ⊕ z4v) :=
 bif ltI t47 t46 then
 (idxI t45 t47).bind fun x =>
 bif fine then
 (zdk x).bind fun r =>
 some (.inl (l, t3, r, t45, t46, W64 (t47 + 1)))
 else
 some (.inl (l, t3, false, t45, t46, W64 (t47 + 1)))
 else
 some (.inr (l, t3, fine))
def z0d (s : z3b) : Option (z3b ⊕ z4v) := z2x s.1 s.2.1 s.2.2.1 s.2.2.2.1 s.2.2.2.2.1 s.2.2.2.2.2
theorem z9h : SoundD Tryd.prog (.loop (subC (bodyC Tryd.f4) [1, 1, 1, 1, 1, 0, 1, 0, 0])) (loopD z0t.xe z0u (loopC z0d)) :=
 z4r (S := z0t.xe) (X := z0u) zbn (h := .no) (z1m [] (by kernel_rfl) trivial) (z0g z0t) z8w z0d (fun s => by kernel_rfl)
def zbq : Shp := ⟨1, 0, [(0, .d .bool)], []⟩
def zcv : XS := .one .ret zbq.xe
theorem zgr : zcv.OK := XS.one_ok (z0g zbq)
def zaz (l : List (List Int)) : Option ((Bool)) :=
 (z8c).bind fun r =>
 bif !r then
 (z8c).bind fun r2 =>
 some r2
 else
 (z9w l).bind fun r3 =>
 bif !r3 then
 (z8c).bind fun r4 =>
 some r4
 else
 (zar l).bind fun r5 =>
 (show Option (((List (List Int)) × (List Int)) ⊕ (Bool)) from
 (zd2 l).bind fun r6 =>
 bif !(eqS r5 r6) then
 z0i (List.length l) (
 bif ltI 0 (List.length l : Nat) then
 some (.inr false)
 else
 z0i (List.length l) (
 bif eqI (List.length l : Nat) 0 then
 bif !(eqS r5 ([47] : List Int)) then
 some (.inr false)
 else
 some (.inl (l, r5))
 else
 some (.inl (l, r5))))
 else
 z0i (List.length l) (
 bif eqI (List.length l : Nat) 0 then
 bif !(eqS r5 ([47] : List Int)) then
 some (.inr false)
 else
 some (.inl (l, r5))
 else
 some (.inl (l, r5)))).bind fun j =>
 Sum.elim (fun y =>
 (show Option (((List (List Int)) × (List Int) × Bool)) from
 z0i (List.length y.1) (
 bif leI (List.length y.1 : Nat) 10 then
 z0i (List.length y.2) (
 some (y.1, y.2, leI (List.length y.2 : Nat) 120))
 else
 some (y.1, y.2, false))).bind fun j2 =>
 z0i (List.length j2.1) (
 (loopC z0d (j2.1, j2.2.1, j2.2.2, j2.1, (List.length j2.1 : Nat), 0)).bind fun o =>
 (z3s o.2.1).bind fun r7 =>
 bif !o.2.2 then
 some true
 else
 bif eqI r7.2 0 then
 (zb0 r7.1 o.1).bind fun r8 =>
 some r8
 else
 some false)) (fun y2 =>
 some y2) j
def zjt : Sig := ⟨4, [.d (.sl .str)], [], 0, zcv⟩
def zca (x : (List (List Int))) : Option ((Bool)) := zaz x
theorem zix : FnOK Tryd.prog zjt zca :=
 fn_ok zbn (h := (.two .no (.two .no (.two .no (.join (fun _ => z6f) .no (.join (fun _ => z5f) .no (.two (.two .no (.over (loopD z0t.xe z0u (loopC z0d)))) .no))))))) Tryd.func4 (z1m [.xs (fun _ => z6f), .xs (fun _ => z5f), .den (.loop (subC (bodyC Tryd.f4) [1, 1, 1, 1, 1, 0, 1, 0, 0])) (loopD z0t.xe z0u (loopC z0d))] (by kernel_rfl) ⟨(zjl zda), (zjl zcg), z9h, trivial⟩) (by kernel_rfl) zgr (fun x => by kernel_rfl)
end Go.Proofs.YtgpmclpgcmgajaaDoor
set_option maxRecDepth 100000
set_option linter.unusedVariables false
set_option linter.unusedSimpArgs false
namespace Go.Proofs.YtgpmclpgcmgajaaDoor
open Go.Tm Go.Ab Go.Lib
theorem ztr (l : List (List Int)) (i : Nat) (hi : i < l.length) : joinT (l.take (i + 1)) = joinT (l.take i) ++ 47 :: l[i] := by
 rw [List.take_succ_eq_append_getElem hi]
 unfold joinT
 rw [List.flatMap_append]
 simp
theorem zsy {l : List (List Int)} (h1 : l.length ≤ 40) (h2 : ∀ p, p ∈ l → p.length ≤ 200) : zd2 l = some (joinI l) := by
 refine ok_is ?_
 unfold zd2
 refine z1o ?_
 refine zik l.length (fun i _ => (l, joinT (l.take i), (i : Int))) (fun i (_ : Unit) => True) () rfl trivial (fun _ _ => ?_) fun i _ hi _ => ?_
 · unfold z1e z6c
   dsimp only
   rw [List.take_length]
   repeat' first
     | (dsimp only [Int.toNat_natCast, List.length_nil])
     | with_reducible first | refine z1r ?_ | refine z2b ?_ | refine z0k ?_ | refine z2c ?_ | refine z1n ?_ | refine z3n ?_ | refine qs ?_ | refine qb ?_ | refine z3k ?_ | refine qw ?_ | refine z3o ?_ | refine z3p ?_ | refine qi ?_ | refine qg (h := ?_) | refine qx (h := ?_) | refine qy (h := ?_) | refine qa ?_ | refine qc ?_ | refine ql ?_ | refine qp ?_ | refine z1o ?_ | rfl
     | (with_reducible first | refine ok_lt ?_ ?_ | refine ok_le ?_ ?_ | refine z3m ?_ ?_ | refine z3j ?_ ?_ | refine z3l ?_ ?_ | refine qu ?_ ?_ | refine ok_if ?_ ?_) <;> intro _ <;> try (exfalso; omega)
   · rename_i h
     cases l with
     | nil => rfl
     | cons p l => rw [z7r] at h; cases h
   · rename_i h
     unfold joinI
     rw [if_neg]
     rintro rfl
     exact h rfl
 · unfold z1e z6c
   dsimp only
   have hT := zmp (l.take i) 200 fun q hq => h2 q (List.mem_of_mem_take hq)
   rw [List.length_take] at hT
   have hp := h2 l[i] (List.getElem_mem hi)
   have hT2 : (joinT (l.take i)).length ≤ 8040 := by
     have : min i l.length ≤ 40 := by omega
     calc (joinT (l.take i)).length ≤ min i l.length * (200 + 1) := hT
       _ ≤ 40 * 201 := Nat.mul_le_mul_right _ this
   repeat' first
     | (dsimp only [Int.toNat_natCast, List.length_nil])
     | with_reducible first | refine z1r ?_ | refine z2b ?_ | refine z0k ?_ | refine z2c ?_ | refine z1n ?_ | refine z3n ?_ | refine qs ?_ | refine qb ?_ | refine z3k ?_ | refine qw ?_ | refine z3o ?_ | refine z3p ?_ | refine qi ?_ | refine qg (h := ?_) | refine qx (h := ?_) | refine qy (h := ?_) | refine qa ?_ | refine qc ?_ | refine ql ?_ | refine qp ?_ | refine z1o ?_ | rfl
     | (with_reducible first | refine ok_lt ?_ ?_ | refine ok_le ?_ ?_ | refine z3m ?_ ?_ | refine z3j ?_ ?_ | refine z3l ?_ ?_ | refine qu ?_ ?_ | refine ok_if ?_ ?_) <;> intro _ <;> try (exfalso; omega)
   exact ⟨(), by rw [z9r (by omega), ztr l i hi]; rfl, trivial⟩
theorem zu0 {s : List Int} (h : 120 < s.length) (h2 : s.length ≤ 1000000) : z3s s = some ([], 20) := by
 unfold z3s
 rw [z7p (by omega), ltI_t (by omega)]; rfl
theorem zt3 (l : List (List Int)) (hb : ∀ p, p ∈ l → Bs p) (g1 : l.length ≤ maxLen) (g2 : ∀ p, p ∈ l → p.length ≤ maxLen) : zaz l = some true := by
 refine ok_is ?_
 unfold zaz
 have hs : z9w l = some (ziw l) := zxj g1 g2
 rw [zxm, hs]
 simp only [Option.bind_some, Bool.not_true, cond_false]
 cases hsh : ziw l with
 | false => exact z0k rfl
 | true =>
   unfold ziw at hsh
   simp only [Bool.and_eq_true, decide_eq_true_eq, List.all_eq_true] at hsh
   obtain ⟨hl, hp⟩ := hsh
   rw [zsf hb hl hp, zsy hl hp]
   have hT := zmp l 200 hp
   have hlen : (joinI l).length ≤ 8040 := by
     unfold joinI
     split
     · simp
     · calc (joinT l).length ≤ l.length * (200 + 1) := hT
         _ ≤ 40 * 201 := Nat.mul_le_mul_right _ hl
   have hbj : Bs (joinI l) := by
     unfold joinI
     split
     · unfold Bs; decide
     · intro x hx
       simp only [joinT, List.mem_flatMap, List.mem_cons] at hx
       obtain ⟨p, h3, rfl | h4⟩ := hx
       · decide
       · exact hb p h3 x h4
   simp only [Option.bind_some, Bool.not_true, cond_false]
   rw [eqS_t rfl]
   simp only [Bool.not_true, cond_false]
   have hnil : ∀ (h : l.length = 0), joinI l = [47] := fun h => by rw [List.length_eq_zero_iff.1 h]; rfl
   have hloop : ∀ fine : Bool, loopC z0d (l, joinI l, fine, l, (l.length : Int), 0) = some (l, joinI l, fine && l.all partI) := fun fine => by
     refine ok_is ?_
     refine zik l.length (fun i (f : Bool) => (l, joinI l, f, l, (l.length : Int), (i : Int))) (fun i f => f = (fine && (l.take i).all partI)) fine rfl (by simp) (fun f hf => ?_) fun i f hi hf => ?_
     · unfold z0d z2x
       dsimp only
       rw [List.take_length] at hf
       repeat' first
         | (dsimp only [Int.toNat_natCast, List.length_nil])
         | with_reducible first | refine z1r ?_ | refine z2b ?_ | refine z0k ?_ | refine z2c ?_ | refine z1n ?_ | refine z3n ?_ | refine qs ?_ | refine qb ?_ | refine z3k ?_ | refine qw ?_ | refine z3o ?_ | refine z3p ?_ | refine qi ?_ | refine qg (h := ?_) | refine qx (h := ?_) | refine qy (h := ?_) | refine qa ?_ | refine qc ?_ | refine ql ?_ | refine qp ?_ | refine z1o ?_ | rfl
         | (with_reducible first | refine ok_lt ?_ ?_ | refine ok_le ?_ ?_ | refine z3m ?_ ?_ | refine z3j ?_ ?_ | refine z3l ?_ ?_ | refine qu ?_ ?_ | refine ok_if ?_ ?_) <;> intro _ <;> try (exfalso; omega)
       rw [hf]
     · unfold z0d z2x
       dsimp only
       have hpi := hp l[i] (List.getElem_mem hi)
       have hr := zth (hb l[i] (List.getElem_mem hi)) (by omega)
       have hstep : (fine && (l.take (i + 1)).all partI) = (f && partI l[i]) := by
         rw [hf, List.take_succ_eq_append_getElem hi, List.all_append, List.all_cons, List.all_nil, Bool.and_true, Bool.and_assoc]
       refine ok_lt (fun _ => ?_) fun h => by exfalso; omega
       refine zql hi ?_
       rw [hr]
       cases f with
       | true => exact z0k (z1r ⟨partI l[i], by rw [z9r (by omega)], by rw [hstep]; rfl⟩)
       | false => exact z0k (z1r ⟨false, by rw [z9r (by omega)], by rw [hstep]; rfl⟩)
   have fin : ∀ fine : Bool, (fine = true → l.length ≤ 10 ∧ (joinI l).length ≤ 120) → Ok ((loopC z0d (l, joinI l, fine, l, (l.length : Int), 0)).bind fun o =>
       (z3s o.2.1).bind fun r7 => bif !o.2.2 then some true else bif eqI r7.2 0 then (zb0 r7.1 o.1).bind fun r8 => some r8 else some false) fun r => r = true := fun fine hf => by
     rw [hloop]
     simp only [Option.bind_some]
     have hsp : ∃ r, z3s (joinI l) = some r := by
       by_cases h : 120 < (joinI l).length
       · exact ⟨_, zu0 h (by omega)⟩
       · exact ⟨_, zeb hbj (by omega)⟩
     cases hall : fine && l.all partI with
     | false =>
       obtain ⟨r, hr⟩ := hsp
       rw [hr]
       exact z0k rfl
     | true =>
       rw [Bool.and_eq_true, List.all_eq_true] at hall
       obtain ⟨h10, h120⟩ := hf hall.1
       rw [zeb hbj (by omega), ztd h10 h120 hall.2]
       simp only [Option.bind_some]
       rw [zyx (by omega) (by omega), decide_eq_true rfl]
       exact z0k rfl
   have hle : ∀ n : Int, leI n 120 = true → n ≤ 120 := fun n h => of_decide_eq_true h
   repeat' first
     | (dsimp only [Int.toNat_natCast, List.length_nil])
     | ((refine fin _ (fun h => ⟨by omega, by have := hle _ h; omega⟩)))
     | ((refine fin _ (fun h => by cases h)))
     | with_reducible first | refine z1r ?_ | refine z2b ?_ | refine z0k ?_ | refine z2c ?_ | refine z1n ?_ | refine z3n ?_ | refine qs ?_ | refine qb ?_ | refine z3k ?_ | refine qw ?_ | refine z3o ?_ | refine z3p ?_ | refine qi ?_ | refine qg (h := ?_) | refine qx (h := ?_) | refine qy (h := ?_) | refine qa ?_ | refine qc ?_ | refine ql ?_ | refine qp ?_ | refine z1o ?_ | rfl
     | (with_reducible first | refine ok_lt ?_ ?_ | refine ok_le ?_ ?_ | refine z3m ?_ ?_ | refine z3j ?_ ?_ | refine z3l ?_ ?_ | refine qu ?_ ?_ | refine ok_if ?_ ?_) <;> intro _ <;> try (exfalso; omega)
   all_goals first
     | (rename_i h0 h; exact absurd (hnil (by omega)) h)
     | (refine z1o ?_; skip; trace_state; sorry)
end Go.Proofs.YtgpmclpgcmgajaaDoor