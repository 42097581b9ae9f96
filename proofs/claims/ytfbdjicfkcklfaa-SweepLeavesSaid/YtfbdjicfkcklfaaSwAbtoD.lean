import Derived.Test.YtfbdjicfkcklfaaSwA
import Derived.Test.YtfbdjicfkcklfaaTm26
set_option maxRecDepth 100000
set_option linter.unusedVariables false
noncomputable section
namespace Go.Proofs.Ytfbdjicfkcklfaa
open Go.Tm Go.Ab
def z1q1 : Env := ⟨[(entQ z19g z14m), (entQ zua zrc), (entQ z1ee z1co), (entQ z1ey z1db), (entQ znh zl7), (entQ zyo zvu)], [], []⟩
theorem z18v : EnvsOK Try.prog z1q1 := ⟨z0o (z0q z1jl) (z0o (z0q zz4) (z0o (z0q z1nq) (z0o (z0q z1n3) (z0o (z0q zry) (z0o (z0q z18k) (z0x _)))))), z0t _, z0u _⟩
def zks : Shp := ⟨92, 0, [(2, .pt 0 r15 []), (3, .pt 1 r8 []), (46, .d .bool)], [.var 33 (.d c17), .var 67 (.d c9)]⟩
def zfp : XS := .one .normal zks.xe
theorem zvf : zfp.OK := XS.one_ok (z0d zks)
def zbk : Shp := ⟨92, 0, [], []⟩
def zbl : Shp := ⟨92, 0, [(4, .d (.int .i64))], []⟩
def z2y : XS := .or (.exit 0) zbk.xe (.one .ret zbl.xe)
theorem zho : z2y.OK := XS.or_ok (z0d zbk) (XS.one_ok (z0d zbl))
def z2z : Shp := ⟨92, 0, [(3, .pt 0 r8 []), (5, .pt 1 r13 []), (7, .d (.int .i64))], [.var 67 (.d c9), .var 49 (.d c14)]⟩
abbrev z6y := Int × T1 × T4
abbrev zc0 := (Unit) ⊕ (Int)
def z6x (i : Int) (t3 : T1) (o : T4) : Option (z6y ⊕ zc0) :=
 z0s (List.length t3.2.2.2.2.2.2.2.1) (
 bif ltI i (List.length t3.2.2.2.2.2.2.2.1 : Nat) then
 (idxI t3.2.2.2.2.2.2.2.1 i).bind fun x =>
 (zs2 o.2.2.2.2.2 x).bind fun r =>
 bif neI r.2 0 then
 some (.inr (.inr 2))
 else
 some (.inl (W64 (i + 1), t3, o))
 else
 some (.inr (.inl ())))
def z1n (s : z6y) : Option (z6y ⊕ zc0) := z6x s.1 s.2.1 s.2.2
theorem zic : SoundD Try.prog (.loop (subC (bodyC Try.f34) [1, 1, 1, 1, 1, 1, 1, 1, 1, 1, 1, 1, 0, 1, 0, 0])) (loopD z2z.xe z2y (loopC z1n)) :=
 z0v (S := z2z.xe) (X := z2y) z18v (h := .no) (z0p [] (by kernel_rfl) trivial) (z0d z2z) zho z1n (fun s => by kernel_rfl)
def z18l : Shp := ⟨1, 0, [(0, .d (.int .i64))], []⟩
def z1ez : XS := .one .ret z18l.xe
theorem z1js : z1ez.OK := XS.one_ok (z0d z18l)
def z11c (t0 : T5) (t1 : T1) : Option ((Int)) :=
 (zu9 t1).bind fun r =>
 bif !r then
 some 7
 else
 (zmp t0.1 t1.1).bind fun r2 =>
 bif r2 then
 some 11
 else
 (z12c t1.2.1 t0.1).bind fun r3 =>
 bif !r3 then
 some 10
 else
 bif inI (W64 (t1.1.1 - 1)) 8 then
 (t0.2.2.2.2[(W64 (t1.1.1 - 1)).toNat]?).bind fun x =>
 bif x then
 some 28
 else
 bif eqI t1.2.2.1 8 then
 some 0
 else
 bif eqI t1.2.2.1 9 then
 some 0
 else
 (show Option ((Bool × T5 × T1)) from
 bif eqI t1.2.2.1 1 then
 some (true, t0, t1)
 else
 some (eqI t1.2.2.1 2, t0, t1)).bind fun j =>
 bif j.1 then
 (zuj j.2.1 j.2.2.2.2.2.2.1).bind fun r4 =>
 some r4
 else
 (ze1 j.2.1 j.2.2.2.2.2.1).bind fun r5 =>
 bif !r5.2 then
 some 2
 else
 bif eqI j.2.2.2.2.1 7 then
 (zuj j.2.1 j.2.2.2.2.2.2.1).bind fun r6 =>
 some r6
 else
 bif eqI j.2.2.2.2.1 6 then
 some 0
 else
 bif r5.1.2.1 then
 some 23
 else
 (loopC z1n (0, j.2.2, r5.1)).bind fun o =>
 Sum.elim (fun y =>
 some 0) (fun y2 =>
 some y2) o
 else none
def z1eh : Sig := ⟨34, [.d c17, .d c9], [], 0, z1ez⟩
def z1bo (x : T5 × T1) : Option ((Int)) := z11c x.1 x.2
theorem z1nz : FnOK Try.prog z1eh z1bo :=
 fn_ok z18v (h := (.two .no (.two .no (.two .no (.two .no (.two .no (.two .no (.two (.join (fun _ => zfp) .no .no) (.two .no (.two .no (.two .no (.two .no (.two .no (.two (.two .no (.over (loopD z2z.xe z2y (loopC z1n)))) .no)))))))))))))) Try.func34 (z0p [.xs (fun _ => zfp), .den (.loop (subC (bodyC Try.f34) [1, 1, 1, 1, 1, 1, 1, 1, 1, 1, 1, 1, 0, 1, 0, 0])) (loopD z2z.xe z2y (loopC z1n))] (by kernel_rfl) ⟨(z2o zvf), zic, trivial⟩) (by kernel_rfl) z1js (fun x => by kernel_rfl)
def z1dx : Env := ⟨[(entQ zs3 zol), (entQ z9e z7t), (entQ z12v zy1)], [], []⟩
theorem zl4 : EnvsOK Try.prog z1dx := ⟨z0o (z0q zu5) (z0o (z0q z9u) (z0o (z0q z1bl) (z0x _))), z0t _, z0u _⟩
def zd9 : Shp := ⟨101, 1, [(0, .wn 0 c9), (3, .d c5), (4, .d (.int .i64)), (5, .pt 1 r8 [])], [.row 67 c9, .var 67 (.d c9)]⟩
def zcz : Shp := ⟨101, 1, [(0, .wn 0 c9), (3, .d c5), (4, .d (.int .i64)), (23, .pt 1 r8 [.fld 2]), (24, .d (.int .i64)), (25, .d .bool), (28, .pt 1 r8 [.fld 2]), (29, .d (.int .i64)), (30, .d .bool)], [.row 67 c9, .var 67 (.d c9)]⟩
def z9n : XS := .or .normal zd9.xe (.one (.exit 1) zcz.xe)
theorem zko : z9n.OK := XS.or_ok (z0d zd9) (XS.one_ok (z0d zcz))
def zbu : Shp := ⟨101, 1, [(0, .wn 0 c9), (3, .d c5), (4, .d (.int .i64)), (6, .pt 1 r7 [])], [.row 67 c9, .var 45 (.d c6)]⟩
def z7i : XS := .one .normal zbu.xe
theorem zid : z7i.OK := XS.one_ok (z0d zbu)
def z6b : Shp := ⟨101, 1, [(0, .wn 0 c9), (3, .d c5), (4, .d (.int .i64)), (6, .pt 1 r7 []), (7, .d (.int .i64)), (8, .d .bool)], [.row 67 c9, .var 45 (.d c6)]⟩
def z3f : XS := .one .normal z6b.xe
theorem zcq : z3f.OK := XS.one_ok (z0d z6b)
def z5o : Shp := ⟨101, 1, [(0, .wn 0 c9), (3, .d c5), (4, .d (.int .i64)), (6, .pt 1 r7 []), (7, .d (.int .i64)), (87, .d .bool)], [.row 67 c9, .var 45 (.d c6)]⟩
def z3c : XS := .one .normal z5o.xe
theorem zc1 : z3c.OK := XS.one_ok (z0d z5o)
def z7x : Shp := ⟨101, 1, [(0, .wn 0 c9), (3, .d c5), (4, .d (.int .i64)), (6, .pt 1 r7 [])], [.row 67 c9, .var 45 (.d c6)]⟩
def z2a : XS := .one (.exit 2) z7x.xe
theorem zer : z2a.OK := XS.one_ok (z0d z7x)
def z1z : Shp := ⟨101, 1, [(0, .wn 0 c9), (3, .d c5), (4, .d (.int .i64)), (6, .pt 1 r7 []), (7, .d (.int .i64))], [.row 67 c9, .var 45 (.d c6)]⟩
abbrev z4t := (List T2) × Int × Int × (List T1) × T2
abbrev z9c := ((List T2) × Int × (List T1) × T2)
def z4s (out : List T2) (i : Int) (k : Int) (l : List T1) (x : T2) : Option (z4t ⊕ z9c) :=
 z0s (List.length l) (
 bif ltI k (List.length l : Nat) then
 (show Option (((List T2) × Int × Int × Bool × (List T1) × T2)) from
 bif inI k (List.length l) then
 (l[k.toNat]?).bind fun x2 =>
 bif eqI x2.2.2.1 6 then
 bif Nat.beq (List.length l) (List.length l) then
 some (out, i, k, true, l, x)
 else none
 else
 bif inI k (List.length l) then
 (l[k.toNat]?).bind fun x3 =>
 bif Nat.beq (List.length l) (List.length l) then
 some (out, i, k, eqI x3.2.2.1 7, l, x)
 else none
 else none
 else none).bind fun j =>
 (show Option (((List T2) × Int × Int × Bool × (List T1) × T2)) from
 bif j.2.2.2.1 then
 bif inI j.2.2.1 (List.length j.2.2.2.2.1) then
 (j.2.2.2.2.1[j.2.2.1.toNat]?).bind fun x4 =>
 bif eqU c0 x4.2.2.2.1 j.2.2.2.2.2.2.2.2.1 then
 bif inI j.2.2.1 (List.length j.2.2.2.2.1) then
 (j.2.2.2.2.1[j.2.2.1.toNat]?).bind fun x5 =>
 (zhu x5.2.2.2.2.2.2.1 j.2.2.2.2.2.1).bind fun r =>
 bif Nat.beq (List.length j.2.2.2.2.1) (List.length j.2.2.2.2.1) then
 some (j.1, j.2.1, j.2.2.1, r, j.2.2.2.2.1, j.2.2.2.2.2)
 else none
 else none
 else
 bif Nat.beq (List.length j.2.2.2.2.1) (List.length j.2.2.2.2.1) then
 some (j.1, j.2.1, j.2.2.1, false, j.2.2.2.2.1, j.2.2.2.2.2)
 else none
 else none
 else
 bif Nat.beq (List.length j.2.2.2.2.1) (List.length j.2.2.2.2.1) then
 some (j.1, j.2.1, j.2.2.1, false, j.2.2.2.2.1, j.2.2.2.2.2)
 else none).bind fun j2 =>
 bif j2.2.2.2.1 then
 bif inI j2.2.2.1 (List.length j2.2.2.2.2.1) then
 (j2.2.2.2.2.1[j2.2.2.1.toNat]?).bind fun x6 =>
 (z9z j2.2.2.2.2.2.2.2.2.2 x6.1).bind fun r2 =>
 bif Nat.beq (List.length j2.2.2.2.2.1) (List.length j2.2.2.2.2.1) then
 some (.inl (j2.1, j2.2.1, W64 (j2.2.2.1 + 1), j2.2.2.2.2.1, (j2.2.2.2.2.2.1, j2.2.2.2.2.2.2.1, j2.2.2.2.2.2.2.2.1, j2.2.2.2.2.2.2.2.2.1, r2)))
 else none
 else none
 else
 bif Nat.beq (List.length j2.2.2.2.2.1) (List.length j2.2.2.2.2.1) then
 some (.inl (j2.1, j2.2.1, W64 (j2.2.2.1 + 1), j2.2.2.2.2.1, j2.2.2.2.2.2))
 else none
 else
 bif Nat.beq (List.length l) (List.length l) then
 some (.inr (out, i, l, x))
 else none)
def z1e (s : z4t) : Option (z4t ⊕ z9c) := z4s s.1 s.2.1 s.2.2.1 s.2.2.2.1 s.2.2.2.2
theorem zf3 : SoundD Try.prog (.loop (subC (bodyC Try.f29) [1, 1, 0, 1, 0, 0, 1, 0, 0, 1, 1, 1, 1, 0, 1, 0, 0])) (loopD z1z.xe z2a (loopC z1e)) :=
 z0v (S := z1z.xe) (X := z2a) zl4 (h := (.two .no (.two (.join (fun _ => z3f) .no (.join (fun _ => z3c) .no .no)) .no))) (z0p [.xs (fun _ => z3f), .xs (fun _ => z3c)] (by kernel_rfl) ⟨(z2o zcq), (z2o zc1), trivial⟩) (z0d z1z) zer z1e (fun s => by kernel_rfl)
def zia : Shp := ⟨101, 1, [(3, .d c5)], [.row 67 c9]⟩
def z7d : XS := .one (.exit 0) zia.xe
theorem zr8 : z7d.OK := XS.one_ok (z0d zia)
def z7e : Shp := ⟨101, 1, [(0, .wn 0 c9), (3, .d c5), (4, .d (.int .i64))], [.row 67 c9]⟩
abbrev zdw := (List T2) × Int × (List T1)
abbrev zji := ((List T2) × (List T1))
def ze4 (out : List T2) (i : Int) (l : List T1) : Option (zdw ⊕ zji) :=
 z0s (List.length l) (
 bif ltI i (List.length l : Nat) then
 bif inI i (List.length l) then
 (l[i.toNat]?).bind fun x =>
 (show Option (((List T2) × Int × (List T1) × T1) ⊕ ((List T2) × Int × Int × Bool × Int × Bool × (List T1) × T1)) from
 bif neI x.2.2.1 1 then
 bif neI x.2.2.1 2 then
 bif neI x.2.2.1 7 then
 bif Nat.beq (List.length l) (List.length l) then
 some (.inr (out, i, x.2.2.1, neI x.2.2.1 2, x.2.2.1, neI x.2.2.1 7, l, x))
 else none
 else
 bif Nat.beq (List.length l) (List.length l) then
 some (.inl (out, i, l, x))
 else none
 else
 bif Nat.beq (List.length l) (List.length l) then
 some (.inl (out, i, l, x))
 else none
 else
 bif Nat.beq (List.length l) (List.length l) then
 some (.inl (out, i, l, x))
 else none).bind fun j =>
 Sum.elim (fun y =>
 (show Option (((List T2) × Int × (List T1) × T2)) from
 bif eqI y.2.2.2.2.2.1 7 then
 bif Nat.beq (List.length y.2.2.1) (List.length y.2.2.1) then
 some (y.1, y.2.1, y.2.2.1, (y.2.2.2.1, y.2.2.2.2.2.2.2.1, y.2.2.2.2.2.2.2.2.1, y.2.2.2.2.2.2.1, List.replicate 8 (0 : Int)))
 else none
 else
 bif Nat.beq (List.length y.2.2.1) (List.length y.2.2.1) then
 some (y.1, y.2.1, y.2.2.1, (y.2.2.2.1, y.2.2.2.2.2.2.2.1, y.2.2.2.2.2.2.2.2.1, y.2.2.2.1, List.replicate 8 (0 : Int)))
 else none).bind fun j2 =>
 bif Nat.beq (List.length j2.2.2.1) (List.length j2.2.2.1) then
 (loopC z1e (j2.1, j2.2.1, 0, j2.2.2.1, j2.2.2.2)).bind fun o =>
 (zgy o.1 o.2.2.2).bind fun r =>
 bif Nat.beq (List.length o.2.2.1) (List.length o.2.2.1) then
 some (.inl (r, W64 (o.2.1 + 1), o.2.2.1))
 else none
 else none) (fun y2 =>
 bif Nat.beq (List.length y2.2.2.2.2.2.2.1) (List.length y2.2.2.2.2.2.2.1) then
 some (.inl (y2.1, W64 (y2.2.1 + 1), y2.2.2.2.2.2.2.1))
 else none) j
 else none
 else
 some (.inr (out, l)))
def z3q (s : zdw) : Option (zdw ⊕ zji) := ze4 s.1 s.2.1 s.2.2
theorem zss : SoundD Try.prog (.loop (subC (bodyC Try.f29) [1, 1, 0, 1, 0, 0])) (loopD z7e.xe z7d (loopC z3q)) :=
 z0v (S := z7e.xe) (X := z7d) zl4 (h := (.two .no (.two (.two .no (.join (fun _ => z9n) .no (.two .no (.join (fun _ => z7i) .no (.two (.two .no (.over (loopD z1z.xe z2a (loopC z1e)))) .no))))) .no))) (z0p [.xs (fun _ => z9n), .xs (fun _ => z7i), .den (.loop (subC (bodyC Try.f29) [1, 1, 0, 1, 0, 0, 1, 0, 0, 1, 1, 1, 1, 0, 1, 0, 0])) (loopD z1z.xe z2a (loopC z1e))] (by kernel_rfl) ⟨(z2o zko), (z2o zid), zf3, trivial⟩) (z0d z7e) zr8 z3q (fun s => by kernel_rfl)
def zt8 : Shp := ⟨1, 1, [(0, .d c5)], [.row 67 c9]⟩
def zwe : XS := .one .ret zt8.xe
theorem z17n : zwe.OK := XS.one_ok (z0d zt8)
def zla (l : List T1) : Option (((List T2) × (List T1))) :=
 bif Nat.beq (List.length l) (List.length l) then
 (loopC z3q ([], 0, l)).bind fun o =>
 some (o.1, o.2)
 else none
def zwo : Sig := ⟨29, [.wn 0 c9], [.row 67 c9], 1, zwe⟩
def zvd (x : (List T1)) : Option (((List T2) × (List T1))) := zla x
theorem z1bc : FnOK Try.prog zwo zvd :=
 fn_ok zl4 (h := (.two .no (.two .no (.two (.two .no (.over (loopD z7e.xe z7d (loopC z3q)))) .no)))) Try.func29 (z0p [.den (.loop (subC (bodyC Try.f29) [1, 1, 0, 1, 0, 0])) (loopD z7e.xe z7d (loopC z3q))] (by kernel_rfl) ⟨zss, trivial⟩) (by kernel_rfl) z17n (fun x => by kernel_rfl)
def z1b4 : Env := ⟨[(entQ ztw zsi), (entQ zke zn3), (entQ zs3 zol), (entQ z9e z7t), (entQ z12y zzy)], [], []⟩
theorem zjk : EnvsOK Try.prog z1b4 := ⟨z0o (z0q z12j) (z0o (z0q z15r) (z0o (z0q zu5) (z0o (z0q z9u) (z0o (z0q z1bg) (z0x _))))), z0t _, z0u _⟩
def z6v : Shp := ⟨89, 1, [(0, .wn 0 c9), (3, .pt 1 r2 []), (5, .d c10), (6, .d (.int .i64)), (7, .pt 2 r12 []), (8, .d (.int .i64)), (22, .wn 0 c9), (23, .d (.int .i64)), (26, .d c0), (27, .d c0), (28, .d .bool), (72, .d .bool)], [.row 67 c9, .var 43 (.d c0), .var 85 (.d c11)]⟩
def z3r : XS := .one .normal z6v.xe
theorem zdk : z3r.OK := XS.one_ok (z0d z6v)
def z9l : Shp := ⟨89, 1, [(0, .wn 0 c9), (3, .pt 1 r2 []), (5, .d c10), (6, .d (.int .i64)), (7, .pt 2 r12 []), (22, .wn 0 c9), (23, .d (.int .i64)), (26, .d c0), (27, .d c0), (28, .d .bool)], [.row 67 c9, .var 43 (.d c0), .var 85 (.d c11)]⟩
def z2g : XS := .one (.exit 2) z9l.xe
theorem zfm : z2g.OK := XS.one_ok (z0d z9l)
def z2h : Shp := ⟨89, 1, [(0, .wn 0 c9), (3, .pt 1 r2 []), (5, .d c10), (6, .d (.int .i64)), (7, .pt 2 r12 []), (8, .d (.int .i64)), (22, .wn 0 c9), (23, .d (.int .i64)), (26, .d c0), (27, .d c0), (28, .d .bool)], [.row 67 c9, .var 43 (.d c0), .var 85 (.d c11)]⟩
abbrev z5j := (List T3) × Int × Int × Int × T0 × T0 × Bool × (List T1) × T0 × T3
abbrev za6 := ((List T3) × Int × Int × T0 × T0 × Bool × (List T1) × T0 × T3)
def z5g (out : List T3) (i : Int) (k : Int) (t23 : Int) (t26 : T0) (t27 : T0) (t28 : Bool) (l : List T1) (obj : T0) (v : T3) : Option (z5j ⊕ za6) :=
 z0s (List.length l) (
 bif ltI k (List.length l : Nat) then
 (show Option (((List T3) × Int × Int × Int × T0 × T0 × Bool × Bool × (List T1) × T0 × T3)) from
 bif inI k (List.length l) then
 (l[k.toNat]?).bind fun x =>
 (zfq x).bind fun r =>
 bif r then
 bif inI k (List.length l) then
 (l[k.toNat]?).bind fun x2 =>
 bif eqU c0 x2.2.2.2.1 obj then
 bif inI k (List.length l) then
 (l[k.toNat]?).bind fun x3 =>
 (zhu x3.2.2.2.2.2.2.2.1 v.1).bind fun r2 =>
 bif Nat.beq (List.length l) (List.length l) then
 bif Nat.beq (List.length l) (List.length l) then
 some (out, i, k, t23, t26, t27, t28, r2, l, obj, v)
 else none
 else none
 else none
 else
 bif Nat.beq (List.length l) (List.length l) then
 bif Nat.beq (List.length l) (List.length l) then
 some (out, i, k, t23, t26, t27, t28, false, l, obj, v)
 else none
 else none
 else none
 else
 bif Nat.beq (List.length l) (List.length l) then
 bif Nat.beq (List.length l) (List.length l) then
 some (out, i, k, t23, t26, t27, t28, false, l, obj, v)
 else none
 else none
 else none).bind fun j =>
 bif j.2.2.2.2.2.2.2.1 then
 bif inI j.2.2.1 (List.length j.2.2.2.2.2.2.2.2.1) then
 (j.2.2.2.2.2.2.2.2.1[j.2.2.1.toNat]?).bind fun x4 =>
 (z9z j.2.2.2.2.2.2.2.2.2.2.2.2 x4.1).bind fun r3 =>
 bif Nat.beq (List.length j.2.2.2.2.2.2.2.2.1) (List.length j.2.2.2.2.2.2.2.2.1) then
 bif Nat.beq (List.length j.2.2.2.2.2.2.2.2.1) (List.length j.2.2.2.2.2.2.2.2.1) then
 some (.inl (j.1, j.2.1, W64 (j.2.2.1 + 1), j.2.2.2.1, j.2.2.2.2.1, j.2.2.2.2.2.1, j.2.2.2.2.2.2.1, j.2.2.2.2.2.2.2.2.1, j.2.2.2.2.2.2.2.2.2.1, (j.2.2.2.2.2.2.2.2.2.2.1, j.2.2.2.2.2.2.2.2.2.2.2.1, r3)))
 else none
 else none
 else none
 else
 bif Nat.beq (List.length j.2.2.2.2.2.2.2.2.1) (List.length j.2.2.2.2.2.2.2.2.1) then
 bif Nat.beq (List.length j.2.2.2.2.2.2.2.2.1) (List.length j.2.2.2.2.2.2.2.2.1) then
 some (.inl (j.1, j.2.1, W64 (j.2.2.1 + 1), j.2.2.2.1, j.2.2.2.2.1, j.2.2.2.2.2.1, j.2.2.2.2.2.2.1, j.2.2.2.2.2.2.2.2.1, j.2.2.2.2.2.2.2.2.2.1, j.2.2.2.2.2.2.2.2.2.2))
 else none
 else none
 else
 bif Nat.beq (List.length l) (List.length l) then
 bif Nat.beq (List.length l) (List.length l) then
 some (.inr (out, i, t23, t26, t27, t28, l, obj, v))
 else none
 else none)
def z1f (s : z5j) : Option (z5j ⊕ za6) := z5g s.1 s.2.1 s.2.2.1 s.2.2.2.1 s.2.2.2.2.1 s.2.2.2.2.2.1 s.2.2.2.2.2.2.1 s.2.2.2.2.2.2.2.1 s.2.2.2.2.2.2.2.2.1 s.2.2.2.2.2.2.2.2.2
theorem zfz : SoundD Try.prog (.loop (subC (bodyC Try.f55) [1, 1, 0, 1, 0, 0, 1, 0, 0, 1, 1, 0, 1, 0, 0])) (loopD z2h.xe z2g (loopC z1f)) :=
 z0v (S := z2h.xe) (X := z2g) zjk (h := (.two .no (.two (.join (fun _ => z3r) .no .no) .no))) (z0p [.xs (fun _ => z3r)] (by kernel_rfl) ⟨(z2o zdk), trivial⟩) (z0d z2h) zfm z1f (fun s => by kernel_rfl)
def zhe : Shp := ⟨89, 1, [(5, .d c10)], [.row 67 c9]⟩
def z6k : XS := .one (.exit 0) zhe.xe
theorem zqw : z6k.OK := XS.one_ok (z0d zhe)
def z6q : Shp := ⟨89, 1, [(0, .wn 0 c9), (3, .pt 1 r2 []), (5, .d c10), (6, .d (.int .i64))], [.row 67 c9, .var 43 (.d c0)]⟩
abbrev zde := (List T3) × Int × (List T1) × T0
abbrev zih := ((List T3) × (List T1))
def zdd (out : List T3) (i : Int) (l : List T1) (obj : T0) : Option (zde ⊕ zih) :=
 z0s (List.length l) (
 bif ltI i (List.length l : Nat) then
 bif inI i (List.length l) then
 (l[i.toNat]?).bind fun x =>
 (zfq x).bind fun r =>
 bif !r then
 bif Nat.beq (List.length l) (List.length l) then
 some (.inl (out, W64 (i + 1), l, obj))
 else none
 else
 bif inI i (List.length l) then
 (l[i.toNat]?).bind fun x2 =>
 bif !(eqU c0 x2.2.2.2.1 obj) then
 bif Nat.beq (List.length l) (List.length l) then
 some (.inl (out, W64 (i + 1), l, obj))
 else none
 else
 bif inI i (List.length l) then
 (l[i.toNat]?).bind fun x3 =>
 bif inI i (List.length l) then
 (l[i.toNat]?).bind fun x4 =>
 winK l 0 (List.length l) fun w =>
 (z12s w x4.1).bind fun r2 =>
 bif Nat.beq (List.length l) (List.length l) then
 bif Nat.beq (List.length l) (List.length l) then
 (loopC z1f (out, i, 0, i, x2.2.2.2.1, obj, !(eqU c0 x2.2.2.2.1 obj), l, obj, (x3.1, r2, List.replicate 8 (0 : Int)))).bind fun o =>
 (zv7 o.1 [] o.2.2.2.2.2.2.2.2).bind fun r3 =>
 bif Nat.beq (List.length o.2.2.2.2.2.2.1) (List.length o.2.2.2.2.2.2.1) then
 some (.inl (r3.1, W64 (o.2.1 + 1), o.2.2.2.2.2.2.1, o.2.2.2.2.2.2.2.1))
 else none
 else none
 else none
 else none
 else none
 else none
 else none
 else
 some (.inr (out, l)))
def z3g (s : zde) : Option (zde ⊕ zih) := zdd s.1 s.2.1 s.2.2.1 s.2.2.2
theorem zsl : SoundD Try.prog (.loop (subC (bodyC Try.f55) [1, 1, 0, 1, 0, 0])) (loopD z6q.xe z6k (loopC z3g)) :=
 z0v (S := z6q.xe) (X := z6k) zjk (h := (.two .no (.two (.two .no (.two .no (.two (.two .no (.over (loopD z2h.xe z2g (loopC z1f)))) .no))) .no))) (z0p [.den (.loop (subC (bodyC Try.f55) [1, 1, 0, 1, 0, 0, 1, 0, 0, 1, 1, 0, 1, 0, 0])) (loopD z2h.xe z2g (loopC z1f))] (by kernel_rfl) ⟨zfz, trivial⟩) (z0d z6q) zqw z3g (fun s => by kernel_rfl)
def zsm : Shp := ⟨1, 1, [(0, .d c10)], [.row 67 c9]⟩
def zv6 : XS := .one .ret zsm.xe
theorem z15i : zv6.OK := XS.one_ok (z0d zsm)
def zjy (obj : T0) (l : List T1) : Option (((List T3) × (List T1))) :=
 bif Nat.beq (List.length l) (List.length l) then
 (loopC z3g ([], 0, l, obj)).bind fun o =>
 some (o.1, o.2)
 else none
def zui : Sig := ⟨55, [.wn 0 c9, .d c0], [.row 67 c9], 1, zv6⟩
def zt7 (x : T0 × (List T1)) : Option (((List T3) × (List T1))) := zjy x.1 x.2
theorem z1al : FnOK Try.prog zui zt7 :=
 fn_ok zjk (h := (.two .no (.two .no (.two (.two .no (.over (loopD z6q.xe z6k (loopC z3g)))) .no)))) Try.func55 (z0p [.den (.loop (subC (bodyC Try.f55) [1, 1, 0, 1, 0, 0])) (loopD z6q.xe z6k (loopC z3g))] (by kernel_rfl) ⟨zsl, trivial⟩) (by kernel_rfl) z15i (fun x => by kernel_rfl)
def z1gg : Env := ⟨[(entQ zbq zaq), (entQ z9e z7t), (entQ zmw zkf)], [], [(entD zui zt7)]⟩
theorem zv9 : EnvsOK Try.prog z1gg := ⟨z0o (z0q zc5) (z0o (z0q z9u) (z0o (z0q zpk) (z0x _))), z0t _, z1ll (z1qe z1al) (z0u _)⟩
def zdn : Shp := ⟨85, 1, [(0, .wn 0 c9), (3, .pt 1 r8 []), (4, .pt 2 r13 []), (5, .pt 3 r13 []), (6, .d (.int .i64))], [.row 67 c9, .var 67 (.d c9), .var 49 (.d c14), .var 49 (.d c14)]⟩
def za1 : XS := .one .normal zdn.xe
theorem zl0 : za1.OK := XS.one_ok (z0d zdn)
def zcs : Shp := ⟨85, 1, [(0, .wn 0 c9), (3, .pt 1 r8 []), (4, .pt 2 r13 []), (5, .pt 3 r13 []), (6, .d (.int .i64)), (50, .d .bool)], [.row 67 c9, .var 67 (.d c9), .var 49 (.d c14), .var 49 (.d c14)]⟩
def z8v : XS := .one .normal zcs.xe
theorem zk3 : z8v.OK := XS.one_ok (z0d zcs)
def zit : Shp := ⟨85, 1, [(4, .pt 1 r13 []), (5, .pt 2 r13 [])], [.row 67 c9, .var 49 (.d c14), .var 49 (.d c14)]⟩
def z7r : XS := .one (.exit 0) zit.xe
theorem zsu : z7r.OK := XS.one_ok (z0d zit)
def z7s : Shp := ⟨85, 1, [(0, .wn 0 c9), (3, .pt 1 r8 []), (4, .pt 2 r13 []), (5, .pt 3 r13 []), (6, .d (.int .i64))], [.row 67 c9, .var 67 (.d c9), .var 49 (.d c14), .var 49 (.d c14)]⟩
abbrev zev := Int × (List T1) × T1 × T4 × T4
abbrev zkt := ((List T1) × T4 × T4)
def zet (i : Int) (l : List T1) (t3 : T1) (t4 : T4) (o : T4) : Option (zev ⊕ zkt) :=
 z0s (List.length l) (
 bif ltI i (List.length l : Nat) then
 bif inI i (List.length l) then
 (l[i.toNat]?).bind fun x =>
 bif !(eqU c0 x.2.2.2.1 t3.1) then
 bif Nat.beq (List.length l) (List.length l) then
 some (.inl (W64 (i + 1), l, t3, t4, o))
 else none
 else
 (show Option ((Int × (List T1) × T1 × T4 × T4)) from
 (show Option ((Int × Bool × (List T1) × T1 × T4 × T4)) from
 bif inI i (List.length l) then
 (l[i.toNat]?).bind fun x2 =>
 bif eqI x2.2.2.1 7 then
 bif inI i (List.length l) then
 (l[i.toNat]?).bind fun x3 =>
 (zbg o.2.2.1 x3.1).bind fun r =>
 bif Nat.beq (List.length l) (List.length l) then
 some (i, r, l, t3, t4, o)
 else none
 else none
 else
 bif Nat.beq (List.length l) (List.length l) then
 some (i, false, l, t3, t4, o)
 else none
 else none).bind fun j =>
 bif j.2.1 then
 bif inI j.1 (List.length j.2.2.1) then
 (j.2.2.1[j.1.toNat]?).bind fun x4 =>
 bif inI j.1 (List.length j.2.2.1) then
 (j.2.2.1[j.1.toNat]?).bind fun x5 =>
 bif Nat.beq (List.length j.2.2.1) (List.length j.2.2.1) then
 some (j.1, j.2.2.1, j.2.2.2.1, j.2.2.2.2.1, ((j.2.2.2.2.2.1, j.2.2.2.2.2.2.1, x4.1, j.2.2.2.2.2.2.2.2).1, (j.2.2.2.2.2.1, j.2.2.2.2.2.2.1, x4.1, j.2.2.2.2.2.2.2.2).2.1, (j.2.2.2.2.2.1, j.2.2.2.2.2.2.1, x4.1, j.2.2.2.2.2.2.2.2).2.2.1, x5.2.2.2.2.2.1, (j.2.2.2.2.2.1, j.2.2.2.2.2.2.1, x4.1, j.2.2.2.2.2.2.2.2).2.2.2.2))
 else none
 else none
 else none
 else
 bif Nat.beq (List.length j.2.2.1) (List.length j.2.2.1) then
 some (j.1, j.2.2.1, j.2.2.2.1, j.2.2.2.2.1, j.2.2.2.2.2)
 else none).bind fun j2 =>
 bif inI j2.1 (List.length j2.2.1) then
 (j2.2.1[j2.1.toNat]?).bind fun x6 =>
 bif eqI x6.2.2.1 6 then
 bif inI j2.1 (List.length j2.2.1) then
 (j2.2.1[j2.1.toNat]?).bind fun x7 =>
 bif inI j2.1 (List.length j2.2.1) then
 (j2.2.1[j2.1.toNat]?).bind fun x8 =>
 (z9z x7.2.1 x8.1).bind fun r2 =>
 (zju j2.2.2.2.2.2.2.2.2.1 r2).bind fun r3 =>
 bif Nat.beq (List.length j2.2.1) (List.length j2.2.1) then
 some (.inl (W64 (j2.1 + 1), j2.2.1, j2.2.2.1, j2.2.2.2.1, (j2.2.2.2.2.1, j2.2.2.2.2.2.1, j2.2.2.2.2.2.2.1, j2.2.2.2.2.2.2.2.1, r3, j2.2.2.2.2.2.2.2.2.2)))
 else none
 else none
 else none
 else
 bif Nat.beq (List.length j2.2.1) (List.length j2.2.1) then
 some (.inl (W64 (j2.1 + 1), j2.2.1, j2.2.2.1, j2.2.2.2.1, j2.2.2.2.2))
 else none
 else none
 else none
 else
 some (.inr (l, t4, o)))
def z3v (s : zev) : Option (zev ⊕ zkt) := zet s.1 s.2.1 s.2.2.1 s.2.2.2.1 s.2.2.2.2
theorem zu3 : SoundD Try.prog (.loop (subC (bodyC Try.f30) [1, 1, 0, 1, 0, 0])) (loopD z7s.xe z7r (loopC z3v)) :=
 z0v (S := z7s.xe) (X := z7r) zv9 (h := (.two .no (.two (.two .no (.join (fun _ => za1) (.join (fun _ => z8v) .no .no) .no)) .no))) (z0p [.xs (fun _ => za1), .xs (fun _ => z8v)] (by kernel_rfl) ⟨(z2o zl0), (z2o zk3), trivial⟩) (z0d z7s) zsu z3v (fun s => by kernel_rfl)
def zul : Shp := ⟨1, 1, [(0, .d c14)], [.row 67 c9]⟩
def zyk : XS := .one .ret zul.xe
theorem z1ad : zyk.OK := XS.one_ok (z0d zul)
def znf (t1 : T1) (l : List T1) : Option ((T4 × (List T1))) :=
 bif Nat.beq (List.length l) (List.length l) then
 (zjy t1.1 l).bind fun r =>
 bif Nat.beq (List.length l) (List.length r.2) then
 (loopC z3v (0, r.2, t1, ((0, 0), false, (0, 0), [], List.replicate 8 (0 : Int), []), (t1.1, eqI t1.2.2.1 2, t1.1, t1.2.2.2.2.2.1, List.replicate 8 (0 : Int), r.1))).bind fun o =>
 some (o.2.2, o.1)
 else none
 else none
def zzd : Sig := ⟨30, [.wn 0 c9, .d c9], [.row 67 c9], 1, zyk⟩
def zwn (x : T1 × (List T1)) : Option ((T4 × (List T1))) := znf x.1 x.2
theorem z1dv : FnOK Try.prog zzd zwn :=
 fn_ok zv9 (h := (.two .no (.two .no (.two (.two .no (.over (loopD z7s.xe z7r (loopC z3v)))) .no)))) Try.func30 (z0p [.den (.loop (subC (bodyC Try.f30) [1, 1, 0, 1, 0, 0])) (loopD z7s.xe z7r (loopC z3v))] (by kernel_rfl) ⟨zu3, trivial⟩) (by kernel_rfl) z1ad (fun x => by kernel_rfl)
def z1ib : Env := ⟨[(entQ zvr ztp), (entQ zbq zaq), (entQ zoa zmi), (entQ z9e z7t)], [(entP zwo zvd), (entP zzd zwn)], []⟩
theorem zo6 : EnvsOK Try.prog z1ib := ⟨z0o (z0q z16o) (z0o (z0q zc5) (z0o (z0q zs0) (z0o (z0q z9u) (z0x _)))), ze0 (zie z1bc) (ze0 (zie z1dv) (z0t _)), z0u _⟩
def zcx : Shp := ⟨108, 1, [(0, .wn 0 c9), (2, .pt 1 r15 []), (3, .pt 2 r15 []), (4, .pt 3 (.one (.arr 8 .leaf)) []), (5, .d (.int .i64)), (6, .pt 4 r8 [])], [.row 67 c9, .var 33 (.ag [.d c1, .wn 5 c14, .wn 6 c6, .d c16, .d (.arr 8 .bool)]), .var 33 (.ag [.d c1, .wn 7 c14, .d c5, .d c16, .d (.arr 8 .bool)]), .var 25 (.d c1), .var 67 (.d c9), .row 49 c14, .row 45 c6, .row 49 c14]⟩
def z9s : XS := .one .normal zcx.xe
theorem zk9 : z9s.OK := XS.one_ok (z0d zcx)
def zcb : Shp := ⟨108, 1, [(0, .wn 0 c9), (2, .pt 1 r15 []), (3, .pt 2 r15 []), (4, .pt 3 (.one (.arr 8 .leaf)) []), (5, .d (.int .i64)), (6, .pt 4 r8 []), (33, .d .bool)], [.row 67 c9, .var 33 (.ag [.d c1, .wn 5 c14, .wn 6 c6, .d c16, .d (.arr 8 .bool)]), .var 33 (.ag [.d c1, .wn 7 c14, .d c5, .d c16, .d (.arr 8 .bool)]), .var 25 (.d c1), .var 67 (.d c9), .row 49 c14, .row 45 c6, .row 49 c14]⟩
def z8j : XS := .one .normal zcb.xe
theorem zj6 : z8j.OK := XS.one_ok (z0d zcb)
def z7m : Shp := ⟨108, 1, [(0, .wn 0 c9), (2, .pt 1 r15 []), (3, .pt 2 r15 []), (4, .pt 3 (.one (.arr 8 .leaf)) []), (5, .d (.int .i64)), (6, .pt 4 r8 []), (7, .pt 5 r13 []), (8, .d (.int .i64))], [.row 67 c9, .var 33 (.ag [.d c1, .wn 6 c14, .wn 7 c6, .d c16, .d (.arr 8 .bool)]), .var 33 (.ag [.d c1, .wn 8 c14, .d c5, .d c16, .d (.arr 8 .bool)]), .var 25 (.d c1), .var 67 (.d c9), .var 49 (.d c14), .row 49 c14, .row 45 c6, .row 49 c14]⟩
def z1r : XS := .one (.exit 2) z7m.xe
theorem ze3 : z1r.OK := XS.one_ok (z0d z7m)
def z1s : Shp := ⟨108, 1, [(0, .wn 0 c9), (2, .pt 1 r15 []), (3, .pt 2 r15 []), (4, .pt 3 (.one (.arr 8 .leaf)) []), (5, .d (.int .i64)), (6, .pt 4 r8 []), (7, .pt 5 r13 []), (8, .d (.int .i64))], [.row 67 c9, .var 33 (.ag [.d c1, .wn 6 c14, .wn 7 c6, .d c16, .d (.arr 8 .bool)]), .var 33 (.ag [.d c1, .wn 8 c14, .d c5, .d c16, .d (.arr 8 .bool)]), .var 25 (.d c1), .var 67 (.d c9), .var 49 (.d c14), .row 49 c14, .row 45 c6, .row 49 c14]⟩
abbrev z4c := Int × Int × (List T1) × (List Int) × (List Int) × (List Bool) × (List Int) × (List T2) × (List Int) × (List Bool) × (List Int) × T1 × T4 × (List T4) × (List T2) × (List T4)
abbrev z8a := (Int × Int × (List T1) × (List Int) × (List Int) × (List Bool) × (List Int) × (List T2) × (List Int) × (List Bool) × (List Int) × T1 × T4 × (List T4) × (List T2) × (List T4))
def z4d (i : Int) (k : Int) (l : List T1) (t2 : List Int) (t22 : List Int) (t23 : List Bool) (t3 : List Int) (t32 : List T2) (t33 : List Int) (t34 : List Bool) (latest : List Int) (t6 : T1) (o : T4) (t24 : List T4) (t25 : List T2) (t35 : List T4) : Option (z4c ⊕ z8a) :=
 bif ltI 0 k then
 bif inI (W64 (k - 1)) (List.length t35) then
 (t35[(W64 (k - 1)).toNat]?).bind fun x =>
 (zbg o.1 x.1).bind fun r =>
 bif r then
 bif Nat.beq (List.length l) (List.length l) then
 bif Nat.beq (List.length t24) (List.length t24) then
 bif Nat.beq (List.length t25) (List.length t25) then
 bif Nat.beq (List.length t35) (List.length t35) then
 some (.inl (i, W64 (k - 1), l, t2, t22, t23, t3, t32, t33, t34, latest, t6, o, t24, t25, t35))
 else none
 else none
 else none
 else none
 else
 bif Nat.beq (List.length l) (List.length l) then
 bif Nat.beq (List.length t24) (List.length t24) then
 bif Nat.beq (List.length t25) (List.length t25) then
 bif Nat.beq (List.length t35) (List.length t35) then
 some (.inr (i, k, l, t2, t22, t23, t3, t32, t33, t34, latest, t6, o, t24, t25, t35))
 else none
 else none
 else none
 else none
 else none
 else
 bif Nat.beq (List.length l) (List.length l) then
 bif Nat.beq (List.length t24) (List.length t24) then
 bif Nat.beq (List.length t25) (List.length t25) then
 bif Nat.beq (List.length t35) (List.length t35) then
 some (.inr (i, k, l, t2, t22, t23, t3, t32, t33, t34, latest, t6, o, t24, t25, t35))
 else none
 else none
 else none
 else none
def z1a (s : z4c) : Option (z4c ⊕ z8a) := z4d s.1 s.2.1 s.2.2.1 s.2.2.2.1 s.2.2.2.2.1 s.2.2.2.2.2.1 s.2.2.2.2.2.2.1 s.2.2.2.2.2.2.2.1 s.2.2.2.2.2.2.2.2.1 s.2.2.2.2.2.2.2.2.2.1 s.2.2.2.2.2.2.2.2.2.2.1 s.2.2.2.2.2.2.2.2.2.2.2.1 s.2.2.2.2.2.2.2.2.2.2.2.2.1 s.2.2.2.2.2.2.2.2.2.2.2.2.2.1 s.2.2.2.2.2.2.2.2.2.2.2.2.2.2.1 s.2.2.2.2.2.2.2.2.2.2.2.2.2.2.2
theorem zef : SoundD Try.prog (.loop (subC (bodyC Try.f10) [1, 1, 1, 0, 1, 0, 0, 1, 0, 0, 1, 0, 1, 0, 1, 1, 0, 0, 0])) (loopD z1s.xe z1r (loopC z1a)) :=
 z0v (S := z1s.xe) (X := z1r) zo6 (h := .no) (z0p [] (by kernel_rfl) trivial) (z0d z1s) ze3 z1a (fun s => by kernel_rfl)
def zcj : Shp := ⟨108, 1, [(0, .wn 0 c9), (2, .pt 1 r15 []), (3, .pt 2 r15 []), (4, .pt 3 (.one (.arr 8 .leaf)) []), (5, .d (.int .i64)), (6, .pt 4 r8 [])], [.row 67 c9, .var 33 (.ag [.d c1, .wn 5 c14, .wn 6 c6, .d c16, .d (.arr 8 .bool)]), .var 33 (.ag [.d c1, .wn 7 c14, .d c5, .d c16, .d (.arr 8 .bool)]), .var 25 (.d c1), .var 67 (.d c9), .row 49 c14, .row 45 c6, .row 49 c14]⟩
def z8f : XS := .one .normal zcj.xe
theorem zj7 : z8f.OK := XS.one_ok (z0d zcj)
def zbx : Shp := ⟨108, 1, [(0, .wn 0 c9), (2, .pt 1 r15 []), (3, .pt 2 r15 []), (4, .pt 3 (.one (.arr 8 .leaf)) []), (5, .d (.int .i64)), (6, .pt 4 r8 []), (85, .d .bool)], [.row 67 c9, .var 33 (.ag [.d c1, .wn 5 c14, .wn 6 c6, .d c16, .d (.arr 8 .bool)]), .var 33 (.ag [.d c1, .wn 7 c14, .d c5, .d c16, .d (.arr 8 .bool)]), .var 25 (.d c1), .var 67 (.d c9), .row 49 c14, .row 45 c6, .row 49 c14]⟩
def z7k : XS := .one .normal zbx.xe
theorem zib : z7k.OK := XS.one_ok (z0d zbx)
def zi7 : Shp := ⟨108, 1, [(2, .pt 1 r15 []), (3, .pt 2 r15 [])], [.row 67 c9, .var 33 (.ag [.d c1, .wn 3 c14, .wn 4 c6, .d c16, .d (.arr 8 .bool)]), .var 33 (.ag [.d c1, .wn 5 c14, .d c5, .d c16, .d (.arr 8 .bool)]), .row 49 c14, .row 45 c6, .row 49 c14]⟩
def z7f : XS := .one (.exit 0) zi7.xe
theorem zr6 : z7f.OK := XS.one_ok (z0d zi7)
def z7g : Shp := ⟨108, 1, [(0, .wn 0 c9), (2, .pt 1 r15 []), (3, .pt 2 r15 []), (4, .pt 3 (.one (.arr 8 .leaf)) []), (5, .d (.int .i64))], [.row 67 c9, .var 33 (.ag [.d c1, .wn 4 c14, .wn 5 c6, .d c16, .d (.arr 8 .bool)]), .var 33 (.ag [.d c1, .wn 6 c14, .d c5, .d c16, .d (.arr 8 .bool)]), .var 25 (.d c1), .row 49 c14, .row 45 c6, .row 49 c14]⟩
abbrev ze8 := Int × (List T1) × (List Int) × (List Int) × (List Bool) × (List Int) × (List T2) × (List Int) × (List Bool) × (List Int) × (List T4) × (List T2) × (List T4)
abbrev zjb := ((List T1) × (List Int) × (List Int) × (List Bool) × (List Int) × (List T2) × (List Int) × (List Bool) × (List T4) × (List T2) × (List T4))
def zee (i : Int) (l : List T1) (t2 : List Int) (t22 : List Int) (t23 : List Bool) (t3 : List Int) (t32 : List T2) (t33 : List Int) (t34 : List Bool) (latest : List Int) (t24 : List T4) (t25 : List T2) (t35 : List T4) : Option (ze8 ⊕ zjb) :=
 z0s (List.length l) (
 bif ltI i (List.length l : Nat) then
 bif inI i (List.length l) then
 (l[i.toNat]?).bind fun x =>
 (show Option ((Int × (List T1) × (List Int) × (List Int) × (List Bool) × (List Int) × (List T2) × (List Int) × (List Bool) × (List Int) × T1 × (List T4) × (List T2) × (List T4))) from
 (show Option ((Int × Bool × (List T1) × (List Int) × (List Int) × (List Bool) × (List Int) × (List T2) × (List Int) × (List Bool) × (List Int) × T1 × (List T4) × (List T2) × (List T4))) from
 bif eqI x.2.2.1 1 then
 bif Nat.beq (List.length l) (List.length l) then
 bif Nat.beq (List.length t24) (List.length t24) then
 bif Nat.beq (List.length t25) (List.length t25) then
 bif Nat.beq (List.length t35) (List.length t35) then
 some (i, true, l, t2, t22, t23, t3, t32, t33, t34, latest, x, t24, t25, t35)
 else none
 else none
 else none
 else none
 else
 bif Nat.beq (List.length l) (List.length l) then
 bif Nat.beq (List.length t24) (List.length t24) then
 bif Nat.beq (List.length t25) (List.length t25) then
 bif Nat.beq (List.length t35) (List.length t35) then
 some (i, eqI x.2.2.1 2, l, t2, t22, t23, t3, t32, t33, t34, latest, x, t24, t25, t35)
 else none
 else none
 else none
 else none).bind fun j =>
 bif j.2.1 then
 bif Nat.beq (List.length j.2.2.1) (List.length j.2.2.1) then
 (znf j.2.2.2.2.2.2.2.2.2.2.2.1 j.2.2.1).bind fun r =>
 z0s (List.length j.2.2.2.2.2.2.2.2.2.2.2.2.2.2) (
 bif Nat.beq (List.length j.2.2.1) (List.length r.2) then
 bif Nat.beq (List.length j.2.2.2.2.2.2.2.2.2.2.2.2.1) (List.length j.2.2.2.2.2.2.2.2.2.2.2.2.1) then
 bif Nat.beq (List.length j.2.2.2.2.2.2.2.2.2.2.2.2.2.1) (List.length j.2.2.2.2.2.2.2.2.2.2.2.2.2.1) then
 bif Nat.beq (List.length j.2.2.2.2.2.2.2.2.2.2.2.2.2.2) (List.length j.2.2.2.2.2.2.2.2.2.2.2.2.2.2) then
 (loopC z1a (j.1, (List.length j.2.2.2.2.2.2.2.2.2.2.2.2.2.2 : Nat), r.2, j.2.2.2.1, j.2.2.2.2.1, j.2.2.2.2.2.1, j.2.2.2.2.2.2.1, j.2.2.2.2.2.2.2.1, j.2.2.2.2.2.2.2.2.1, j.2.2.2.2.2.2.2.2.2.1, j.2.2.2.2.2.2.2.2.2.2.1, j.2.2.2.2.2.2.2.2.2.2.2.1, r.1, j.2.2.2.2.2.2.2.2.2.2.2.2.1, j.2.2.2.2.2.2.2.2.2.2.2.2.2.1, j.2.2.2.2.2.2.2.2.2.2.2.2.2.2)).bind fun o =>
 bif subOk o.2.1 (List.length o.2.2.2.2.2.2.2.2.2.2.2.2.2.2.2 : Nat) (List.length o.2.2.2.2.2.2.2.2.2.2.2.2.2.2.2) then
 winK o.2.2.2.2.2.2.2.2.2.2.2.2.2.2.2 o.2.1.toNat ((List.length o.2.2.2.2.2.2.2.2.2.2.2.2.2.2.2) - o.2.1.toNat) fun w =>
 appG (List.length ([o.2.2.2.2.2.2.2.2.2.2.2.2.1] : List T4)) (List.length w) 112 fun _ =>
 bif subOk 0 o.2.1 (List.length o.2.2.2.2.2.2.2.2.2.2.2.2.2.2.2) then
 winK o.2.2.2.2.2.2.2.2.2.2.2.2.2.2.2 0 o.2.1.toNat fun w2 =>
 appG (List.length ([] : List T4)) (List.length w2) 112 fun _ =>
 bif Nat.beq (List.length w2) (List.length w2) then
 appG (List.length w2) (List.length (([o.2.2.2.2.2.2.2.2.2.2.2.2.1] : List T4) ++ w)) 112 fun _ =>
 bif Nat.beq (List.length o.2.2.1) (List.length o.2.2.1) then
 bif Nat.beq (List.length o.2.2.2.2.2.2.2.2.2.2.2.2.2.1) (List.length o.2.2.2.2.2.2.2.2.2.2.2.2.2.1) then
 bif Nat.beq (List.length o.2.2.2.2.2.2.2.2.2.2.2.2.2.2.1) (List.length o.2.2.2.2.2.2.2.2.2.2.2.2.2.2.1) then
 bif Nat.beq (List.length (w2 ++ (([o.2.2.2.2.2.2.2.2.2.2.2.2.1] : List T4) ++ w))) (List.length (w2 ++ (([o.2.2.2.2.2.2.2.2.2.2.2.2.1] : List T4) ++ w))) then
 some (o.1, o.2.2.1, o.2.2.2.1, o.2.2.2.2.1, o.2.2.2.2.2.1, o.2.2.2.2.2.2.1, o.2.2.2.2.2.2.2.1, o.2.2.2.2.2.2.2.2.1, o.2.2.2.2.2.2.2.2.2.1, o.2.2.2.2.2.2.2.2.2.2.1, o.2.2.2.2.2.2.2.2.2.2.2.1, o.2.2.2.2.2.2.2.2.2.2.2.2.2.1, o.2.2.2.2.2.2.2.2.2.2.2.2.2.2.1, w2 ++ (([o.2.2.2.2.2.2.2.2.2.2.2.2.1] : List T4) ++ w))
 else none
 else none
 else none
 else none
 else none
 else none
 else none
 else none
 else none
 else none
 else none)
 else none
 else
 bif Nat.beq (List.length j.2.2.1) (List.length j.2.2.1) then
 bif Nat.beq (List.length j.2.2.2.2.2.2.2.2.2.2.2.2.1) (List.length j.2.2.2.2.2.2.2.2.2.2.2.2.1) then
 bif Nat.beq (List.length j.2.2.2.2.2.2.2.2.2.2.2.2.2.1) (List.length j.2.2.2.2.2.2.2.2.2.2.2.2.2.1) then
 bif Nat.beq (List.length j.2.2.2.2.2.2.2.2.2.2.2.2.2.2) (List.length j.2.2.2.2.2.2.2.2.2.2.2.2.2.2) then
 some (j.1, j.2.2.1, j.2.2.2.1, j.2.2.2.2.1, j.2.2.2.2.2.1, j.2.2.2.2.2.2.1, j.2.2.2.2.2.2.2.1, j.2.2.2.2.2.2.2.2.1, j.2.2.2.2.2.2.2.2.2.1, j.2.2.2.2.2.2.2.2.2.2.1, j.2.2.2.2.2.2.2.2.2.2.2.1, j.2.2.2.2.2.2.2.2.2.2.2.2.1, j.2.2.2.2.2.2.2.2.2.2.2.2.2.1, j.2.2.2.2.2.2.2.2.2.2.2.2.2.2)
 else none
 else none
 else none
 else none).bind fun j2 =>
 (show Option ((Int × (List T1) × (List Int) × (List Int) × (List Bool) × (List Int) × (List T2) × (List Int) × (List Bool) × (List Int) × T1 × (List T4) × (List T2) × (List T4))) from
 (show Option ((Int × Bool × (List T1) × (List Int) × (List Int) × (List Bool) × (List Int) × (List T2) × (List Int) × (List Bool) × (List Int) × T1 × (List T4) × (List T2) × (List T4))) from
 bif eqI j2.2.2.2.2.2.2.2.2.2.2.1.2.2.1 8 then
 (zls j2.2.2.2.2.2.2.2.2.2.1 j2.2.2.2.2.2.2.2.2.2.2.1.1.1).bind fun r2 =>
 bif Nat.beq (List.length j2.2.1) (List.length j2.2.1) then
 bif Nat.beq (List.length j2.2.2.2.2.2.2.2.2.2.2.2.1) (List.length j2.2.2.2.2.2.2.2.2.2.2.2.1) then
 bif Nat.beq (List.length j2.2.2.2.2.2.2.2.2.2.2.2.2.1) (List.length j2.2.2.2.2.2.2.2.2.2.2.2.2.1) then
 bif Nat.beq (List.length j2.2.2.2.2.2.2.2.2.2.2.2.2.2) (List.length j2.2.2.2.2.2.2.2.2.2.2.2.2.2) then
 some (j2.1, ltI r2 j2.2.2.2.2.2.2.2.2.2.2.1.1.2, j2.2.1, j2.2.2.1, j2.2.2.2.1, j2.2.2.2.2.1, j2.2.2.2.2.2.1, j2.2.2.2.2.2.2.1, j2.2.2.2.2.2.2.2.1, j2.2.2.2.2.2.2.2.2.1, j2.2.2.2.2.2.2.2.2.2.1, j2.2.2.2.2.2.2.2.2.2.2.1, j2.2.2.2.2.2.2.2.2.2.2.2.1, j2.2.2.2.2.2.2.2.2.2.2.2.2.1, j2.2.2.2.2.2.2.2.2.2.2.2.2.2)
 else none
 else none
 else none
 else none
 else
 bif Nat.beq (List.length j2.2.1) (List.length j2.2.1) then
 bif Nat.beq (List.length j2.2.2.2.2.2.2.2.2.2.2.2.1) (List.length j2.2.2.2.2.2.2.2.2.2.2.2.1) then
 bif Nat.beq (List.length j2.2.2.2.2.2.2.2.2.2.2.2.2.1) (List.length j2.2.2.2.2.2.2.2.2.2.2.2.2.1) then
 bif Nat.beq (List.length j2.2.2.2.2.2.2.2.2.2.2.2.2.2) (List.length j2.2.2.2.2.2.2.2.2.2.2.2.2.2) then
 some (j2.1, false, j2.2.1, j2.2.2.1, j2.2.2.2.1, j2.2.2.2.2.1, j2.2.2.2.2.2.1, j2.2.2.2.2.2.2.1, j2.2.2.2.2.2.2.2.1, j2.2.2.2.2.2.2.2.2.1, j2.2.2.2.2.2.2.2.2.2.1, j2.2.2.2.2.2.2.2.2.2.2.1, j2.2.2.2.2.2.2.2.2.2.2.2.1, j2.2.2.2.2.2.2.2.2.2.2.2.2.1, j2.2.2.2.2.2.2.2.2.2.2.2.2.2)
 else none
 else none
 else none
 else none).bind fun j3 =>
 bif j3.2.1 then
 (z9z j3.2.2.2.2.2.2.2.2.2.2.1 j3.2.2.2.2.2.2.2.2.2.2.2.1.1).bind fun r3 =>
 bif inI (W64 (j3.2.2.2.2.2.2.2.2.2.2.2.1.1.1 - 1)) 8 then
 (j3.2.2.2.2.2.2.2.2.1[(W64 (j3.2.2.2.2.2.2.2.2.2.2.2.1.1.1 - 1)).toNat]?).bind fun _x =>
 bif Nat.beq (List.length j3.2.2.1) (List.length j3.2.2.1) then
 bif Nat.beq (List.length j3.2.2.2.2.2.2.2.2.2.2.2.2.1) (List.length j3.2.2.2.2.2.2.2.2.2.2.2.2.1) then
 bif Nat.beq (List.length j3.2.2.2.2.2.2.2.2.2.2.2.2.2.1) (List.length j3.2.2.2.2.2.2.2.2.2.2.2.2.2.1) then
 bif Nat.beq (List.length j3.2.2.2.2.2.2.2.2.2.2.2.2.2.2) (List.length j3.2.2.2.2.2.2.2.2.2.2.2.2.2.2) then
 some ((j3.1, j3.2.2.1, j3.2.2.2.1, j3.2.2.2.2.1, j3.2.2.2.2.2.1, j3.2.2.2.2.2.2.1, j3.2.2.2.2.2.2.2.1, j3.2.2.2.2.2.2.2.2.1.set ((W64 (j3.2.2.2.2.2.2.2.2.2.2.2.1.1.1 - 1)).toNat) j3.2.2.2.2.2.2.2.2.2.2.2.1.2.2.2.2.2.2.2.2.2.2, j3.2.2.2.2.2.2.2.2.2.1, r3, j3.2.2.2.2.2.2.2.2.2.2.2.1, j3.2.2.2.2.2.2.2.2.2.2.2.2.1, j3.2.2.2.2.2.2.2.2.2.2.2.2.2.1, j3.2.2.2.2.2.2.2.2.2.2.2.2.2.2))
 else none
 else none
 else none
 else none
 else none
 else
 bif Nat.beq (List.length j3.2.2.1) (List.length j3.2.2.1) then
 bif Nat.beq (List.length j3.2.2.2.2.2.2.2.2.2.2.2.2.1) (List.length j3.2.2.2.2.2.2.2.2.2.2.2.2.1) then
 bif Nat.beq (List.length j3.2.2.2.2.2.2.2.2.2.2.2.2.2.1) (List.length j3.2.2.2.2.2.2.2.2.2.2.2.2.2.1) then
 bif Nat.beq (List.length j3.2.2.2.2.2.2.2.2.2.2.2.2.2.2) (List.length j3.2.2.2.2.2.2.2.2.2.2.2.2.2.2) then
 some (j3.1, j3.2.2.1, j3.2.2.2.1, j3.2.2.2.2.1, j3.2.2.2.2.2.1, j3.2.2.2.2.2.2.1, j3.2.2.2.2.2.2.2.1, j3.2.2.2.2.2.2.2.2.1, j3.2.2.2.2.2.2.2.2.2.1, j3.2.2.2.2.2.2.2.2.2.2.1, j3.2.2.2.2.2.2.2.2.2.2.2.1, j3.2.2.2.2.2.2.2.2.2.2.2.2.1, j3.2.2.2.2.2.2.2.2.2.2.2.2.2.1, j3.2.2.2.2.2.2.2.2.2.2.2.2.2.2)
 else none
 else none
 else none
 else none).bind fun j4 =>
 bif eqI j4.2.2.2.2.2.2.2.2.2.2.1.2.2.1 9 then
 bif inI (W64 (j4.2.2.2.2.2.2.2.2.2.2.1.1.1 - 1)) 8 then
 (j4.2.2.2.2.2.2.2.2.1[(W64 (j4.2.2.2.2.2.2.2.2.2.2.1.1.1 - 1)).toNat]?).bind fun _x2 =>
 bif Nat.beq (List.length j4.2.1) (List.length j4.2.1) then
 bif Nat.beq (List.length j4.2.2.2.2.2.2.2.2.2.2.2.1) (List.length j4.2.2.2.2.2.2.2.2.2.2.2.1) then
 bif Nat.beq (List.length j4.2.2.2.2.2.2.2.2.2.2.2.2.1) (List.length j4.2.2.2.2.2.2.2.2.2.2.2.2.1) then
 bif Nat.beq (List.length j4.2.2.2.2.2.2.2.2.2.2.2.2.2) (List.length j4.2.2.2.2.2.2.2.2.2.2.2.2.2) then
 some (.inl ((W64 (j4.1 + 1), j4.2.1, j4.2.2.1, j4.2.2.2.1, j4.2.2.2.2.1, j4.2.2.2.2.2.1, j4.2.2.2.2.2.2.1, j4.2.2.2.2.2.2.2.1, j4.2.2.2.2.2.2.2.2.1.set ((W64 (j4.2.2.2.2.2.2.2.2.2.2.1.1.1 - 1)).toNat) true, j4.2.2.2.2.2.2.2.2.2.1, j4.2.2.2.2.2.2.2.2.2.2.2.1, j4.2.2.2.2.2.2.2.2.2.2.2.2.1, j4.2.2.2.2.2.2.2.2.2.2.2.2.2)))
 else none
 else none
 else none
 else none
 else none
 else
 bif Nat.beq (List.length j4.2.1) (List.length j4.2.1) then
 bif Nat.beq (List.length j4.2.2.2.2.2.2.2.2.2.2.2.1) (List.length j4.2.2.2.2.2.2.2.2.2.2.2.1) then
 bif Nat.beq (List.length j4.2.2.2.2.2.2.2.2.2.2.2.2.1) (List.length j4.2.2.2.2.2.2.2.2.2.2.2.2.1) then
 bif Nat.beq (List.length j4.2.2.2.2.2.2.2.2.2.2.2.2.2) (List.length j4.2.2.2.2.2.2.2.2.2.2.2.2.2) then
 some (.inl (W64 (j4.1 + 1), j4.2.1, j4.2.2.1, j4.2.2.2.1, j4.2.2.2.2.1, j4.2.2.2.2.2.1, j4.2.2.2.2.2.2.1, j4.2.2.2.2.2.2.2.1, j4.2.2.2.2.2.2.2.2.1, j4.2.2.2.2.2.2.2.2.2.1, j4.2.2.2.2.2.2.2.2.2.2.2.1, j4.2.2.2.2.2.2.2.2.2.2.2.2.1, j4.2.2.2.2.2.2.2.2.2.2.2.2.2))
 else none
 else none
 else none
 else none
 else none
 else
 bif Nat.beq (List.length t24) (List.length t24) then
 bif Nat.beq (List.length t25) (List.length t25) then
 bif Nat.beq (List.length t35) (List.length t35) then
 some (.inr (l, t2, t22, t23, t3, t32, t33, t34, t24, t25, t35))
 else none
 else none
 else none)
def z3o (s : ze8) : Option (ze8 ⊕ zjb) := zee s.1 s.2.1 s.2.2.1 s.2.2.2.1 s.2.2.2.2.1 s.2.2.2.2.2.1 s.2.2.2.2.2.2.1 s.2.2.2.2.2.2.2.1 s.2.2.2.2.2.2.2.2.1 s.2.2.2.2.2.2.2.2.2.1 s.2.2.2.2.2.2.2.2.2.2.1 s.2.2.2.2.2.2.2.2.2.2.2.1 s.2.2.2.2.2.2.2.2.2.2.2.2
theorem zsx : SoundD Try.prog (.loop (subC (bodyC Try.f10) [1, 1, 1, 0, 1, 0, 0])) (loopD z7g.xe z7f (loopC z3o)) :=
 z0v (S := z7g.xe) (X := z7f) zo6 (h := (.two .no (.two (.two .no (.join (fun _ => z9s) (.join (fun _ => z8j) .no (.two (.two .no (.two .no (.two (.over (loopD z1s.xe z1r (loopC z1a))) (.two .no (.reg [5] []))))) .no)) (.join (fun _ => z8f) (.join (fun _ => z7k) .no .no) .no))) .no))) (z0p [.xs (fun _ => z9s), .xs (fun _ => z8j), .den (.loop (subC (bodyC Try.f10) [1, 1, 1, 0, 1, 0, 0, 1, 0, 0, 1, 0, 1, 0, 1, 1, 0, 0, 0])) (loopD z1s.xe z1r (loopC z1a)), .xs (fun _ => z8f), .xs (fun _ => z7k)] (by kernel_rfl) ⟨(z2o zk9), (z2o zj6), zef, (z2o zj7), (z2o zib), trivial⟩) (z0d z7g) zr6 z3o (fun s => by kernel_rfl)
def zw4 : Shp := ⟨1, 1, [(0, .ag [.d c1, .wn 1 c14, .d c5, .d c16, .d (.arr 8 .bool)])], [.row 67 c9, .row 49 c14]⟩
def z11z : XS := .one .ret zw4.xe
theorem z1cn : z11z.OK := XS.one_ok (z0d zw4)
def zpi (l : List T1) : Option (((List Int) × (List T2) × (List Int) × (List Bool) × (List T1) × (List T4))) :=
 winK l 0 (List.length l) fun w =>
 (zpe w).bind fun r =>
 bif Nat.beq (List.length l) (List.length l) then
 (zla l).bind fun r2 =>
 bif Nat.beq (List.length l) (List.length r2.2) then
 bif Nat.beq 0 (List.length ([] : List T4)) then
 bif Nat.beq 0 (List.length ([] : List T2)) then
 bif Nat.beq 0 (List.length ([] : List T4)) then
 (loopC z3o (0, r2.2, List.replicate 8 (0 : Int), List.replicate 8 (0 : Int), List.replicate 8 false, r, r2.1, List.replicate 8 (0 : Int), List.replicate 8 false, List.replicate 8 (0 : Int), ([] : List T4), ([] : List T2), ([] : List T4))).bind fun o =>
 bif Nat.beq (List.length o.2.2.2.2.2.2.2.2.2.2) (List.length o.2.2.2.2.2.2.2.2.2.2) then
 some (o.2.2.2.2.1, o.2.2.2.2.2.1, o.2.2.2.2.2.2.1, o.2.2.2.2.2.2.2.1, o.1, o.2.2.2.2.2.2.2.2.2.2)
 else none
 else none
 else none
 else none
 else none
 else none
def z10n : Sig := ⟨10, [.wn 0 c9], [.row 67 c9], 1, z11z⟩
def zz1 (x : (List T1)) : Option (((List Int) × (List T2) × (List Int) × (List Bool) × (List T1) × (List T4))) := zpi x
theorem z1gm : FnOK Try.prog z10n zz1 :=
 fn_ok zo6 (h := (.two .no (.two .no (.two .no (.two (.two .no (.over (loopD z7g.xe z7f (loopC z3o)))) .no))))) Try.func10 (z0p [.den (.loop (subC (bodyC Try.f10) [1, 1, 1, 0, 1, 0, 0])) (loopD z7g.xe z7f (loopC z3o))] (by kernel_rfl) ⟨zsx, trivial⟩) (by kernel_rfl) z1cn (fun x => by kernel_rfl)
def z1mt : Env := ⟨[(entQ z1eh z1bo)], [], [(entD z10n zz1)]⟩
theorem z16k : EnvsOK Try.prog z1mt := ⟨z0o (z0q z1nz) (z0x _), z0t _, z1ll (z1qe z1gm) (z0u _)⟩
def zmm : Shp := ⟨27, 0, [(3, .wn 0 c9)], [.row 67 c9]⟩
def zb7 : XS := .one (.exit 0) zmm.xe
theorem zxm : zb7.OK := XS.one_ok (z0d zmm)
def zb3 : Shp := ⟨27, 0, [(0, .d c3), (3, .wn 0 c9), (4, .d (.int .i64))], [.row 67 c9]⟩
abbrev zi1 := (List T1) × Int × (List T1)
abbrev zos := ((List T1))
def zi4 (l : List T1) (i : Int) (out : List T1) : Option (zi1 ⊕ zos) :=
 z0s (List.length l) (
 bif ltI i (List.length l : Nat) then
 bif Nat.beq (List.length out) (List.length out) then
 (zpi out).bind fun r =>
 (idxI l i).bind fun x =>
 winK r.2.2.2.2.2 0 (List.length r.2.2.2.2.2) fun w =>
 (z11c (r.1, w, r.2.1, r.2.2.1, r.2.2.2.1) x).bind fun r2 =>
 bif eqI r2 0 then
 (idxI l i).bind fun x2 =>
 bif Nat.beq (List.length out) (List.length r.2.2.2.2.1) then
 appG (List.length r.2.2.2.2.1) (List.length ([x2] : List T1)) 184 fun _ =>
 bif Nat.beq (List.length (r.2.2.2.2.1 ++ ([x2] : List T1))) (List.length (r.2.2.2.2.1 ++ ([x2] : List T1))) then
 some (.inl (l, W64 (i + 1), r.2.2.2.2.1 ++ ([x2] : List T1)))
 else none
 else none
 else
 bif Nat.beq (List.length out) (List.length r.2.2.2.2.1) then
 some (.inl (l, W64 (i + 1), r.2.2.2.2.1))
 else none
 else none
 else
 bif Nat.beq (List.length out) (List.length out) then
 some (.inr out)
 else none)
def z5r (s : zi1) : Option (zi1 ⊕ zos) := zi4 s.1 s.2.1 s.2.2
theorem zyu : SoundD Try.prog (.loop (subC (bodyC Try.f11) [1, 1, 0, 1, 0, 0])) (loopD zb3.xe zb7 (loopC z5r)) :=
 z0v (S := zb3.xe) (X := zb7) z16k (h := .no) (z0p [] (by kernel_rfl) trivial) (z0d zb3) zxm z5r (fun s => by kernel_rfl)
def z14p : Shp := ⟨1, 0, [(0, .d c3)], []⟩
def z1cm : XS := .one .ret z14p.xe
theorem z1iu : z1cm.OK := XS.one_ok (z0d z14p)
def zr9 (l : List T1) : Option (((List T1))) :=
 bif Nat.beq 0 (List.length ([] : List T1)) then
 (loopC z5r (l, 0, ([] : List T1))).bind fun o =>
 winK o 0 (List.length o) fun w =>
 some w
 else none
def z1av : Sig := ⟨11, [.d c3], [], 0, z1cm⟩
def z18o (x : (List T1)) : Option (((List T1))) := zr9 x
theorem z1m3 : FnOK Try.prog z1av z18o :=
 fn_ok z16k (h := (.two .no (.two .no (.two (.two .no (.over (loopD zb3.xe zb7 (loopC z5r)))) .no)))) Try.func11 (z0p [.den (.loop (subC (bodyC Try.f11) [1, 1, 0, 1, 0, 0])) (loopD zb3.xe zb7 (loopC z5r))] (by kernel_rfl) ⟨zyu, trivial⟩) (by kernel_rfl) z1iu (fun x => by kernel_rfl)
def z1mo : Env := ⟨[], [], []⟩
theorem z11k : EnvsOK Try.prog z1mo := ⟨z0x _, z0t _, z0u _⟩
def zns : Shp := ⟨13, 0, [], []⟩
def znz : Shp := ⟨13, 0, [(2, .d .bool)], []⟩
def zbs : XS := .or (.exit 0) zns.xe (.one .ret znz.xe)
theorem zzi : zbs.OK := XS.or_ok (z0d zns) (XS.one_ok (z0d znz))
def zbw : Shp := ⟨13, 0, [(1, .pt 0 r7 []), (3, .d (.int .i64))], [.var 45 (.d c6)]⟩
abbrev ziz := Int × T2
abbrev zqs := (Unit) ⊕ (Bool)
def zij (i : Int) (x : T2) : Option (ziz ⊕ zqs) :=
 bif ltI i 8 then
 bif inI i 8 then
 (x.2.2.2.2[i.toNat]?).bind fun x2 =>
 bif neI x2 0 then
 some (.inr (.inr false))
 else
 some (.inl (W64 (i + 1), x))
 else none
 else
 some (.inr (.inl ()))
def z4z (s : ziz) : Option (ziz ⊕ zqs) := zij s.1 s.2
theorem z10j : SoundD Try.prog (.loop (subC (bodyC Try.f18) [1, 0, 1, 0, 0])) (loopD zbw.xe zbs (loopC z4z)) :=
 z0v (S := zbw.xe) (X := zbs) z11k (h := .no) (z0p [] (by kernel_rfl) trivial) (z0d zbw) zzi z4z (fun s => by kernel_rfl)
def z11t : Shp := ⟨1, 0, [(0, .d .bool)], []⟩
def z1a2 : XS := .one .ret z11t.xe
theorem z1gc : z1a2.OK := XS.one_ok (z0d z11t)
def zok (x : T2) : Option ((Bool)) :=
 (loopC z4z (0, x)).bind fun o =>
 Sum.elim (fun y =>
 some true) (fun y2 =>
 some y2) o
def zvs : Sig := ⟨18, [.d c6], [], 0, z1a2⟩
def zte (x : T2) : Option ((Bool)) := zok x
theorem z14n : FnOK Try.prog zvs zte :=
 fn_ok z11k (h := (.two .no (.two (.two .no (.over (loopD zbw.xe zbs (loopC z4z)))) .no))) Try.func18 (z0p [.den (.loop (subC (bodyC Try.f18) [1, 0, 1, 0, 0])) (loopD zbw.xe zbs (loopC z4z))] (by kernel_rfl) ⟨z10j, trivial⟩) (by kernel_rfl) z1gc (fun x => by kernel_rfl)
def z1nk : Env := ⟨[(entQ zvs zte)], [], []⟩
theorem z1k6 : EnvsOK Try.prog z1nk := ⟨z0o (z0q z14n) (z0x _), z0t _, z0u _⟩
def z15x : Shp := ⟨1, 0, [(0, .d .bool)], []⟩
def z1d1 : XS := .one .ret z15x.xe
theorem z1hp : z1d1.OK := XS.one_ok (z0d z15x)
def zxj (v : T3) : Option ((Bool)) :=
 (zok ((0, 0), (0, 0), [], (0, 0), v.2.2)).bind fun r =>
 some r
def z1br : Sig := ⟨47, [.d c11], [], 0, z1d1⟩
def z19z (x : T3) : Option ((Bool)) := zxj x
theorem z1mm : FnOK Try.prog z1br z19z :=
 fn_ok z1k6 (h := .no) Try.func47 (z0p [] (by kernel_rfl) trivial) (by kernel_rfl) z1hp (fun x => by kernel_rfl)
def z1o8 : Env := ⟨[], [], []⟩
theorem z15v : EnvsOK Try.prog z1o8 := ⟨z0x _, z0t _, z0u _⟩
def zly : Shp := ⟨26, 0, [], []⟩
def zlw : Shp := ⟨26, 0, [(4, .d .bool)], []⟩
def zb2 : XS := .or (.exit 0) zly.xe (.one .ret zlw.xe)
theorem zx4 : zb2.OK := XS.or_ok (z0d zly) (XS.one_ok (z0d zlw))
def zb6 : Shp := ⟨26, 0, [(0, .d c10), (1, .d c10), (5, .d (.int .i64))], []⟩
abbrev zhs := (List T3) × (List T3) × Int
abbrev zp4 := (Unit) ⊕ (Bool)
def zhi (a : List T3) (b : List T3) (i : Int) : Option (zhs ⊕ zp4) :=
 z0s (List.length a) (
 bif ltI i (List.length a : Nat) then
 (idxI a i).bind fun x =>
 (idxI b i).bind fun x2 =>
 bif !(eqU c11 x x2) then
 some (.inr (.inr false))
 else
 some (.inl (a, b, W64 (i + 1)))
 else
 some (.inr (.inl ())))
def z5u (s : zhs) : Option (zhs ⊕ zp4) := zhi s.1 s.2.1 s.2.2
theorem zz2 : SoundD Try.prog (.loop (subC (bodyC Try.f20) [1, 1, 0, 1, 0, 0])) (loopD zb6.xe zb2 (loopC z5u)) :=
 z0v (S := zb6.xe) (X := zb2) z15v (h := .no) (z0p [] (by kernel_rfl) trivial) (z0d zb6) zx4 z5u (fun s => by kernel_rfl)
def z14r : Shp := ⟨1, 0, [(0, .d .bool)], []⟩
def z1bq : XS := .one .ret z14r.xe
theorem z1h2 : z1bq.OK := XS.one_ok (z0d z14r)
def zxd (a : List T3) (b : List T3) : Option ((Bool)) :=
 z0s (List.length a) (
 z0s (List.length b) (
 bif neI (List.length a : Nat) (List.length b : Nat) then
 some false
 else
 (loopC z5u (a, b, 0)).bind fun o =>
 Sum.elim (fun y =>
 some true) (fun y2 =>
 some y2) o))
def z1d0 : Sig := ⟨20, [.d c10, .d c10], [], 0, z1bq⟩
def z18m (x : (List T3) × (List T3)) : Option ((Bool)) := zxd x.1 x.2
theorem z1mk : FnOK Try.prog z1d0 z18m :=
 fn_ok z15v (h := (.two .no (.two .no (.two (.two .no (.over (loopD zb6.xe zb2 (loopC z5u)))) .no)))) Try.func20 (z0p [.den (.loop (subC (bodyC Try.f20) [1, 1, 0, 1, 0, 0])) (loopD zb6.xe zb2 (loopC z5u))] (by kernel_rfl) ⟨zz2, trivial⟩) (by kernel_rfl) z1h2 (fun x => by kernel_rfl)
def z1md : Env := ⟨[(entQ z1br z19z)], [], []⟩
theorem z11s : EnvsOK Try.prog z1md := ⟨z0o (z0q z1mm) (z0x _), z0t _, z0u _⟩
def zlg : Shp := ⟨24, 0, [(3, .wn 0 c11)], [.row 85 c11]⟩
def zaa : XS := .one (.exit 0) zlg.xe
theorem zvy : zaa.OK := XS.one_ok (z0d zlg)
def za7 : Shp := ⟨24, 0, [(0, .d c10), (3, .wn 0 c11), (4, .d (.int .i64))], [.row 85 c11]⟩
abbrev zgk := (List T3) × Int × (List T3)
abbrev znk := ((List T3))
def zgc (l : List T3) (i : Int) (out : List T3) : Option (zgk ⊕ znk) :=
 z0s (List.length l) (
 bif ltI i (List.length l : Nat) then
 (idxI l i).bind fun x =>
 (zxj x).bind fun r =>
 bif r then
 (idxI l i).bind fun x2 =>
 bif Nat.beq (List.length out) (List.length out) then
 appG (List.length out) (List.length ([x2] : List T3)) 64 fun _ =>
 bif Nat.beq (List.length (out ++ ([x2] : List T3))) (List.length (out ++ ([x2] : List T3))) then
 some (.inl (l, W64 (i + 1), out ++ ([x2] : List T3)))
 else none
 else none
 else
 bif Nat.beq (List.length out) (List.length out) then
 some (.inl (l, W64 (i + 1), out))
 else none
 else
 bif Nat.beq (List.length out) (List.length out) then
 some (.inr out)
 else none)
def z5f (s : zgk) : Option (zgk ⊕ znk) := zgc s.1 s.2.1 s.2.2
theorem zx3 : SoundD Try.prog (.loop (subC (bodyC Try.f21) [1, 1, 0, 1, 0, 0])) (loopD za7.xe zaa (loopC z5f)) :=
 z0v (S := za7.xe) (X := zaa) z11s (h := .no) (z0p [] (by kernel_rfl) trivial) (z0d za7) zvy z5f (fun s => by kernel_rfl)
def z12d : Shp := ⟨1, 0, [(0, .d c10)], []⟩
def z19x : XS := .one .ret z12d.xe
theorem z1h0 : z19x.OK := XS.one_ok (z0d z12d)
def zob (l : List T3) : Option (((List T3))) :=
 bif Nat.beq 0 (List.length ([] : List T3)) then
 (loopC z5f (l, 0, ([] : List T3))).bind fun o =>
 winK o 0 (List.length o) fun w =>
 some w
 else none
def z19j : Sig := ⟨21, [.d c10], [], 0, z19x⟩
def z14l (x : (List T3)) : Option (((List T3))) := zob x
theorem z1jk : FnOK Try.prog z19j z14l :=
 fn_ok z11s (h := (.two .no (.two .no (.two (.two .no (.over (loopD za7.xe zaa (loopC z5f)))) .no)))) Try.func21 (z0p [.den (.loop (subC (bodyC Try.f21) [1, 1, 0, 1, 0, 0])) (loopD za7.xe zaa (loopC z5f))] (by kernel_rfl) ⟨zx3, trivial⟩) (by kernel_rfl) z1h0 (fun x => by kernel_rfl)
end Go.Proofs.Ytfbdjicfkcklfaa
set_option maxRecDepth 100000
set_option linter.unusedVariables false
noncomputable section
namespace Go.Proofs.Ytfbdjicfkcklfaa
open Go.Tm Go.Ab
def z1aj : Env := ⟨[(entQ z19m z14a), (entQ z1by z19l), (entQ z1av z18o), (entQ zvh ztt), (entQ zs7 zps), (entQ zvs zte), (entQ znh zl7), (entQ z19j z14l), (entQ z1d0 z18m)], [], []⟩
theorem zek : EnvsOK Try.prog z1aj := ⟨z0o (z0q z1jh) (z0o (z0q z1m9) (z0o (z0q z1m3) (z0o (z0q z15h) (z0o (z0q zz0) (z0o (z0q z14n) (z0o (z0q zry) (z0o (z0q z1jk) (z0o (z0q z1mk) (z0x _))))))))), z0t _, z0u _⟩
def z5p : Shp := ⟨160, 0, [(5, .pt 0 r15 []), (6, .pt 1 r15 []), (8, .pt 2 r7 []), (9, .d .bool), (72, .d c5), (73, .d (.int .i64)), (74, .d (.int .i64))], [.var 33 (.d c17), .var 33 (.d c17), .var 45 (.d c6)]⟩
def z1l : XS := .one (.exit 2) z5p.xe
theorem zcl : z1l.OK := XS.one_ok (z0d z5p)
def z1m : Shp := ⟨160, 0, [(5, .pt 0 r15 []), (6, .pt 1 r15 []), (8, .pt 2 r7 []), (9, .d .bool), (72, .d c5), (73, .d (.int .i64)), (74, .d (.int .i64)), (82, .d c5), (83, .d (.int .i64)), (84, .d (.int .i64))], [.var 33 (.d c17), .var 33 (.d c17), .var 45 (.d c6)]⟩
abbrev z3e := Bool × (List T2) × Int × Int × (List T2) × Int × Int × T5 × T5 × T2
abbrev z6c := (Bool × (List T2) × Int × Int × T5 × T5 × T2)
def z3d (found : Bool) (t72 : List T2) (t73 : Int) (t74 : Int) (t82 : List T2) (t83 : Int) (t84 : Int) (t5 : T5) (t : T5) (x : T2) : Option (z3e ⊕ z6c) :=
 bif ltI t84 t83 then
 (idxI t82 t84).bind fun x2 =>
 bif found then
 some (.inl (true, t72, t73, t74, t82, t83, W64 (t84 + 1), t5, t, x))
 else
 some (.inl (eqU c6 x2 x, t72, t73, t74, t82, t83, W64 (t84 + 1), t5, t, x))
 else
 some (.inr (found, t72, t73, t74, t5, t, x))
def z1b (s : z3e) : Option (z3e ⊕ z6c) := z3d s.1 s.2.1 s.2.2.1 s.2.2.2.1 s.2.2.2.2.1 s.2.2.2.2.2.1 s.2.2.2.2.2.2.1 s.2.2.2.2.2.2.2.1 s.2.2.2.2.2.2.2.2.1 s.2.2.2.2.2.2.2.2.2
theorem zcp : SoundD Try.prog (.loop (subC (bodyC Try.f6) [1, 1, 1, 1, 1, 0, 1, 0, 0, 1, 1, 0, 0, 1, 1, 1, 0, 1, 0, 0])) (loopD z1m.xe z1l (loopC z1b)) :=
 z0v (S := z1m.xe) (X := z1l) zek (h := .no) (z0p [] (by kernel_rfl) trivial) (z0d z1m) zcl z1b (fun s => by kernel_rfl)
def zdp : Shp := ⟨160, 0, [(5, .pt 0 r15 []), (6, .pt 1 r15 [])], [.var 33 (.d c17), .var 33 (.d c17)]⟩
def zdo : Shp := ⟨160, 0, [(4, .d .bool)], []⟩
def z3u : XS := .or (.exit 0) zdp.xe (.one .ret zdo.xe)
theorem zl2 : z3u.OK := XS.or_ok (z0d zdp) (XS.one_ok (z0d zdo))
def z3t : Shp := ⟨160, 0, [(5, .pt 0 r15 []), (6, .pt 1 r15 []), (72, .d c5), (73, .d (.int .i64)), (74, .d (.int .i64))], [.var 33 (.d c17), .var 33 (.d c17)]⟩
abbrev z9x := (List T2) × Int × Int × T5 × T5
abbrev zel := (T5 × T5) ⊕ (Bool)
def z9y (t72 : List T2) (t73 : Int) (t74 : Int) (t5 : T5) (t : T5) : Option (z9x ⊕ zel) :=
 bif ltI t74 t73 then
 (idxI t72 t74).bind fun x =>
 (zok x).bind fun r =>
 bif !r then
 some (.inl (t72, t73, W64 (t74 + 1), t5, t))
 else
 z0s (List.length t.2.2.1) (
 (loopC z1b (false, t72, t73, t74, t.2.2.1, (List.length t.2.2.1 : Nat), 0, t5, t, x)).bind fun o =>
 (ze1 o.2.2.2.2.2.1 o.2.2.2.2.2.2.2.2.2.1).bind fun r2 =>
 (ze1 o.2.2.2.2.2.1 o.2.2.2.2.2.2.2.1).bind fun r3 =>
 bif !o.1 then
 some (.inr (.inr false))
 else
 bif !r2.2 then
 some (.inr (.inr false))
 else
 bif !r3.2 then
 bif !(eqU c0 o.2.2.2.2.2.2.2.1 (0, 0)) then
 some (.inr (.inr false))
 else
 some (.inl (o.2.1, o.2.2.1, W64 (o.2.2.2.1 + 1), o.2.2.2.2.1, o.2.2.2.2.2.1))
 else
 some (.inl (o.2.1, o.2.2.1, W64 (o.2.2.2.1 + 1), o.2.2.2.2.1, o.2.2.2.2.2.1)))
 else
 some (.inr (.inl (t5, t)))
def z2f (s : z9x) : Option (z9x ⊕ zel) := z9y s.1 s.2.1 s.2.2.1 s.2.2.2.1 s.2.2.2.2
theorem zll : SoundD Try.prog (.loop (subC (bodyC Try.f6) [1, 1, 1, 1, 1, 0, 1, 0, 0])) (loopD z3t.xe z3u (loopC z2f)) :=
 z0v (S := z3t.xe) (X := z3u) zek (h := (.two .no (.two .no (.two (.two .no (.two .no (.two .no (.two (.two .no (.over (loopD z1m.xe z1l (loopC z1b)))) .no)))) .no)))) (z0p [.den (.loop (subC (bodyC Try.f6) [1, 1, 1, 1, 1, 0, 1, 0, 0, 1, 1, 0, 0, 1, 1, 1, 0, 1, 0, 0])) (loopD z1m.xe z1l (loopC z1b))] (by kernel_rfl) ⟨zcp, trivial⟩) (z0d z3t) zl2 z2f (fun s => by kernel_rfl)
def zct : Shp := ⟨160, 0, [], []⟩
def zcr : Shp := ⟨160, 0, [(4, .d .bool)], []⟩
def z3j : XS := .or (.exit 4) zct.xe (.one .ret zcr.xe)
theorem zjx : z3j.OK := XS.or_ok (z0d zct) (XS.one_ok (z0d zcr))
def z3i : Shp := ⟨160, 0, [(5, .pt 0 r15 []), (127, .d c18), (128, .d (.int .i64)), (129, .d (.int .i64))], [.var 33 (.d c17)]⟩
abbrev z8w := (List T4) × Int × Int × T5
abbrev zdm := (Unit) ⊕ (Bool)
def z8x (t127 : List T4) (t128 : Int) (t129 : Int) (t5 : T5) : Option (z8w ⊕ zdm) :=
 bif ltI t129 t128 then
 (idxI t127 t129).bind fun x =>
 (ze1 t5 x.1).bind fun r =>
 bif !r.2 then
 some (.inr (.inr false))
 else
 bif !(eqS r.1.2.2.2.1 x.2.2.2.1) then
 some (.inr (.inr false))
 else
 (zob r.1.2.2.2.2.2).bind fun r2 =>
 (zob x.2.2.2.2.2).bind fun r3 =>
 (zxd r2 r3).bind fun r4 =>
 bif !r4 then
 some (.inr (.inr false))
 else
 some (.inl (t127, t128, W64 (t129 + 1), t5))
 else
 some (.inr (.inl ()))
def z1w (s : z8w) : Option (z8w ⊕ zdm) := z8x s.1 s.2.1 s.2.2.1 s.2.2.2
theorem zk7 : SoundD Try.prog (.loop (subC (bodyC Try.f6) [1, 1, 1, 1, 1, 1, 0, 1, 0, 0])) (loopD z3i.xe z3j (loopC z1w)) :=
 z0v (S := z3i.xe) (X := z3j) zek (h := .no) (z0p [] (by kernel_rfl) trivial) (z0d z3i) zjx z1w (fun s => by kernel_rfl)
def zqm : Shp := ⟨1, 0, [(0, .d .bool)], []⟩
def zt1 : XS := .one .ret zqm.xe
theorem z12x : zt1.OK := XS.one_ok (z0d zqm)
def zo9 (l : List T1) (base : List Int) : Option ((Bool)) :=
 (zdr).bind fun r =>
 bif !r then
 (zdr).bind fun r2 =>
 some r2
 else
 (zrn l).bind fun r3 =>
 bif !r3 then
 (zdr).bind fun r4 =>
 some r4
 else
 (zr9 l).bind fun r5 =>
 (zfd r5).bind fun r6 =>
 (zgn r6 base).bind fun r7 =>
 bif !(eqU c1 r7.1 r6.1) then
 some false
 else
 bif !(eqU c16 r7.2.2.2.1 r6.2.2.2.1) then
 some false
 else
 bif !(eqU (.arr 8 .bool) r7.2.2.2.2 r6.2.2.2.2) then
 some false
 else
 z0s (List.length r7.2.2.1) (
 z0s (List.length r6.2.2.1) (
 bif ltI (List.length r6.2.2.1 : Nat) (List.length r7.2.2.1 : Nat) then
 some false
 else
 z0s (List.length r7.2.1) (
 z0s (List.length r6.2.1) (
 bif ltI (List.length r6.2.1 : Nat) (List.length r7.2.1 : Nat) then
 some false
 else
 z0s (List.length r6.2.2.1) (
 (loopC z2f (r6.2.2.1, (List.length r6.2.2.1 : Nat), 0, r6, r7)).bind fun o =>
 Sum.elim (fun y =>
 z0s (List.length y.2.2.1) (
 (loopC z1w (y.2.2.1, (List.length y.2.2.1 : Nat), 0, y.1)).bind fun o2 =>
 Sum.elim (fun y3 =>
 some true) (fun y4 =>
 some y4) o2)) (fun y2 =>
 some y2) o)))))
def z1ah : Sig := ⟨6, [.d c3, .d c1], [], 0, zt1⟩
def zrw (x : (List T1) × (List Int)) : Option ((Bool)) := zo9 x.1 x.2
theorem z17a : FnOK Try.prog z1ah zrw :=
 fn_ok zek (h := (.two .no (.two .no (.two .no (.two .no (.two .no (.two (.two .no (.over (loopD z3t.xe z3u (loopC z2f)))) (.two (.two .no (.over (loopD z3i.xe z3j (loopC z1w)))) .no)))))))) Try.func6 (z0p [.den (.loop (subC (bodyC Try.f6) [1, 1, 1, 1, 1, 0, 1, 0, 0])) (loopD z3t.xe z3u (loopC z2f)), .den (.loop (subC (bodyC Try.f6) [1, 1, 1, 1, 1, 1, 0, 1, 0, 0])) (loopD z3i.xe z3j (loopC z1w))] (by kernel_rfl) ⟨zll, zk7, trivial⟩) (by kernel_rfl) z12x (fun x => by kernel_rfl)
end Go.Proofs.Ytfbdjicfkcklfaa
set_option maxRecDepth 100000
set_option linter.unusedSimpArgs false
set_option linter.unusedVariables false
namespace Go.Proofs.Ytfbdjicfkcklfaa
open Go.Tm Go.Ab
theorem z0z {A : Type} {a b : T0} {x y : Option A} {Q : A → Prop} (h : a = b → Ok x Q) (g : ¬ a = b → Ok y Q) : Ok (bif eqU c0 a b then x else y) Q := z1na (u := c0) rfl h g
def VecOk (v : List Int) : Prop := v.length = 8
def joinV (a b : List Int) : List Int := List.zipWith (fun x y => if x < y then y else x) a b
theorem z17o {a b : List Int} (ha : VecOk a) (hb : VecOk b) : VecOk (joinV a b) := by unfold VecOk joinV at *; simp [ha, hb]
def fillV (v : List Int) (i : Nat) : List Int := v.take i ++ List.replicate (8 - i) 0
theorem z1li {v : List Int} (h : v.length = 8) {i : Nat} (hi : i ≤ 8) : (fillV v i).length = 8 := by unfold fillV; simp; omega
theorem z1d8 {v : List Int} (h : v.length = 8) {i : Nat} (hi : i < 8) {x : Int} (hx : x = v[i]) : (fillV v i).set i x = fillV v (i + 1) := by
 unfold fillV
 rw [List.set_append_right _ _ (by simp; omega), hx, List.take_succ_eq_append_getElem (by omega), List.append_assoc]
 have : i - (List.take i v).length = 0 := by simp; omega
 rw [this, show 8 - i = (8 - (i + 1)) + 1 by omega, List.replicate_succ]; rfl
theorem z1s5 {v : List Int} (h : v.length = 8) {i : Nat} (hi : i < 8) (hx : v[i] = 0) : fillV v i = fillV v (i + 1) := by
 unfold fillV
 rw [List.take_succ_eq_append_getElem (by omega), hx, show 8 - i = (8 - (i + 1)) + 1 by omega, List.replicate_succ]; simp
theorem z1le {v : List Int} (h : v.length = 8) : fillV v 8 = v := by unfold fillV; rw [List.take_of_length_le (by omega)]; simp
theorem z1dh {a b : List Int} (ha : VecOk a) (hb : VecOk b) : zju a b = some (joinV a b) := by
 refine ok_is ?_
 have hj := z17o ha hb
 unfold VecOk at ha hb hj
 unfold zju
 refine z0a (z1o 8 (fun i _ => ((i : Int), a, b, List.replicate 8 (0 : Int), fillV (joinV a b) i)) (fun _ (_ : Unit) => True) () rfl trivial (fun _ _ => ?_) fun i _ hi _ => ?_)
 · unfold z5v zhp
   dsimp only
   repeat' first
     | (dsimp only [Int.toNat_natCast, List.length_nil])
     | with_reducible first | refine z0g ?_ | refine z0f ?_ | refine z0c ?_ | refine z0e ?_ | refine z0b ?_ | refine z0h ?_ | refine qs ?_ | refine qb ?_ | refine z0j ?_ | refine qw ?_ | refine z0n ?_ | refine z0k ?_ | refine qi ?_ | refine qg (h := ?_) | refine qx (h := ?_) | refine qy (h := ?_) | refine qa ?_ | refine qc ?_ | refine ql ?_ | refine qp ?_ | refine z0a ?_ | rfl
     | (with_reducible first | refine ok_lt ?_ ?_ | refine ok_le ?_ ?_ | refine z0i ?_ ?_ | refine z0l ?_ ?_ | refine z0m ?_ ?_ | refine qu ?_ ?_ | refine ok_if ?_ ?_) <;> intro _ <;> try (exfalso; omega)
   exact z1le hj
 · unfold z5v zhp
   dsimp only
   have hl := z1li hj (i := i) (by omega)
   have hji : (joinV a b)[i] = if a[i] < b[i] then b[i] else a[i] := by simp [joinV]
   repeat' first
     | (dsimp only [Int.toNat_natCast, List.length_nil])
     | with_reducible first | refine z0g ?_ | refine z0f ?_ | refine z0c ?_ | refine z0e ?_ | refine z0b ?_ | refine z0h ?_ | refine qs ?_ | refine qb ?_ | refine z0j ?_ | refine qw ?_ | refine z0n ?_ | refine z0k ?_ | refine qi ?_ | refine qg (h := ?_) | refine qx (h := ?_) | refine qy (h := ?_) | refine qa ?_ | refine qc ?_ | refine ql ?_ | refine qp ?_ | refine z0a ?_ | rfl
     | (with_reducible first | refine ok_lt ?_ ?_ | refine ok_le ?_ ?_ | refine z0i ?_ ?_ | refine z0l ?_ ?_ | refine z0m ?_ ?_ | refine qu ?_ ?_ | refine ok_if ?_ ?_) <;> intro _ <;> try (exfalso; omega)
   · rename_i h1 h2
     refine ⟨(), ?_, trivial⟩
     rw [z0r (by omega)]
     try simp only [Int.toNat_natCast] at h2 ⊢
     rw [List.set_set, z1d8 hj hi (hji.trans (if_pos h2)).symm]; rfl
   · rename_i h1 h2
     refine ⟨(), ?_, trivial⟩
     rw [z0r (by omega)]
     try simp only [Int.toNat_natCast] at h2 ⊢
     rw [z1d8 hj hi (hji.trans (if_neg h2)).symm]; rfl
def oneV (id : T0) : List Int := (List.range 8).map fun i : Nat => if (i : Int) + 1 = id.1 then id.2 else 0
theorem zfn (id : T0) : VecOk (oneV id) := by unfold VecOk oneV; simp
theorem z1yd (id : T0) : z11e id = some (oneV id) := by
 refine ok_is ?_
 have hj := zfn id
 unfold VecOk at hj
 unfold z11e
 refine z0a (z1o 8 (fun i _ => ((i : Int), id, List.replicate 8 (0 : Int), fillV (oneV id) i)) (fun _ (_ : Unit) => True) () rfl trivial (fun _ _ => ?_) fun i _ hi _ => ?_)
 · unfold z6g zig
   dsimp only
   repeat' first
     | (dsimp only [Int.toNat_natCast, List.length_nil])
     | with_reducible first | refine z0g ?_ | refine z0f ?_ | refine z0c ?_ | refine z0e ?_ | refine z0b ?_ | refine z0h ?_ | refine qs ?_ | refine qb ?_ | refine z0j ?_ | refine qw ?_ | refine z0n ?_ | refine z0k ?_ | refine qi ?_ | refine qg (h := ?_) | refine qx (h := ?_) | refine qy (h := ?_) | refine qa ?_ | refine qc ?_ | refine ql ?_ | refine qp ?_ | refine z0a ?_ | rfl
     | (with_reducible first | refine ok_lt ?_ ?_ | refine ok_le ?_ ?_ | refine z0i ?_ ?_ | refine z0l ?_ ?_ | refine z0m ?_ ?_ | refine qu ?_ ?_ | refine ok_if ?_ ?_) <;> intro _ <;> try (exfalso; omega)
   exact z1le hj
 · unfold z6g zig
   dsimp only
   have hl := z1li hj (i := i) (by omega)
   have hji : (oneV id)[i] = if (i : Int) + 1 = id.1 then id.2 else 0 := by simp [oneV]
   repeat' first
     | (dsimp only [Int.toNat_natCast, List.length_nil])
     | with_reducible first | refine z0g ?_ | refine z0f ?_ | refine z0c ?_ | refine z0e ?_ | refine z0b ?_ | refine z0h ?_ | refine qs ?_ | refine qb ?_ | refine z0j ?_ | refine qw ?_ | refine z0n ?_ | refine z0k ?_ | refine qi ?_ | refine qg (h := ?_) | refine qx (h := ?_) | refine qy (h := ?_) | refine qa ?_ | refine qc ?_ | refine ql ?_ | refine qp ?_ | refine z0a ?_ | rfl
     | (with_reducible first | refine ok_lt ?_ ?_ | refine ok_le ?_ ?_ | refine z0i ?_ ?_ | refine z0l ?_ ?_ | refine z0m ?_ ?_ | refine qu ?_ ?_ | refine ok_if ?_ ?_) <;> intro _ <;> try (exfalso; omega)
   · rename_i h1 h2
     refine ⟨(), ?_, trivial⟩
     rw [z0r (by omega)] at h2 ⊢
     try simp only [Int.toNat_natCast]
     rw [z1d8 hj hi (hji.trans (if_pos h2)).symm]; rfl
   · rename_i h1 h2
     refine ⟨(), ?_, trivial⟩
     rw [z0r (by omega)] at h2 ⊢
     rw [z1s5 hj hi (hji.trans (if_neg h2))]; rfl
def withV (v : List Int) (id : T0) : List Int := joinV v (oneV id)
theorem zjl {v : List Int} (h : VecOk v) (id : T0) : VecOk (withV v id) := z17o h (zfn id)
theorem zkv {v : List Int} (h : VecOk v) (id : T0) : z9z v id = some (withV v id) := by
 unfold z9z; rw [z1yd]; simp only [Option.bind_some]; rw [z1dh h (zfn id)]; rfl
def getV (v : List Int) (rep : Int) : Int := if 1 ≤ rep ∧ rep ≤ 8 then (v[(rep - 1).toNat]?).getD 0 else 0
theorem z1h5 {v : List Int} (h : VecOk v) (rep : Int) : zls v rep = some (getV v rep) := by
 refine ok_is ?_
 unfold VecOk at h
 unfold zls
 refine z0a (z1o 8 (fun i _ => (rep, (i : Int), v)) (fun i (_ : Unit) => ¬ (1 ≤ rep ∧ rep ≤ i)) () rfl (by omega) (fun _ hn => ?_) fun i _ hi hn => ?_)
 · unfold z8e zl1
   dsimp only
   repeat' first
     | (dsimp only [Int.toNat_natCast, List.length_nil])
     | with_reducible first | refine z0g ?_ | refine z0f ?_ | refine z0c ?_ | refine z0e ?_ | refine z0b ?_ | refine z0h ?_ | refine qs ?_ | refine qb ?_ | refine z0j ?_ | refine qw ?_ | refine z0n ?_ | refine z0k ?_ | refine qi ?_ | refine qg (h := ?_) | refine qx (h := ?_) | refine qy (h := ?_) | refine qa ?_ | refine qc ?_ | refine ql ?_ | refine qp ?_ | refine z0a ?_ | rfl
     | (with_reducible first | refine ok_lt ?_ ?_ | refine ok_le ?_ ?_ | refine z0i ?_ ?_ | refine z0l ?_ ?_ | refine z0m ?_ ?_ | refine qu ?_ ?_ | refine ok_if ?_ ?_) <;> intro _ <;> try (exfalso; omega)
   unfold getV; rw [if_neg (by omega)]
 · unfold z8e zl1
   dsimp only
   repeat' first
     | (dsimp only [Int.toNat_natCast, List.length_nil])
     | with_reducible first | refine z0g ?_ | refine z0f ?_ | refine z0c ?_ | refine z0e ?_ | refine z0b ?_ | refine z0h ?_ | refine qs ?_ | refine qb ?_ | refine z0j ?_ | refine qw ?_ | refine z0n ?_ | refine z0k ?_ | refine qi ?_ | refine qg (h := ?_) | refine qx (h := ?_) | refine qy (h := ?_) | refine qa ?_ | refine qc ?_ | refine ql ?_ | refine qp ?_ | refine z0a ?_ | rfl
     | (with_reducible first | refine ok_lt ?_ ?_ | refine ok_le ?_ ?_ | refine z0i ?_ ?_ | refine z0l ?_ ?_ | refine z0m ?_ ?_ | refine qu ?_ ?_ | refine ok_if ?_ ?_) <;> intro _ <;> try (exfalso; omega)
   · rename_i h1 h2
     rw [z0r (by omega)] at h2
     unfold getV
     rw [if_pos (by omega), show (rep - 1).toNat = i by omega, getE (by omega)]; rfl
   · rename_i h1 h2
     rw [z0r (by omega)] at h2
     refine ⟨(), ?_, by omega⟩
     rw [z0r (by omega)]; rfl
def hasV (v : List Int) (id : T0) : Bool := ltI 0 id.2 && leI id.2 (getV v id.1)
theorem z1y7 {v : List Int} (h : VecOk v) (rep : Int) : z1ds v rep = some (getV v rep) := by
 refine ok_is ?_
 unfold VecOk at h
 unfold z1ds
 by_cases h1 : 1 ≤ rep ∧ rep ≤ 8
 · rw [z0r (by omega)]
   repeat' first
     | (dsimp only [Int.toNat_natCast, List.length_nil])
     | with_reducible first | refine z0g ?_ | refine z0f ?_ | refine z0c ?_ | refine z0e ?_ | refine z0b ?_ | refine z0h ?_ | refine qs ?_ | refine qb ?_ | refine z0j ?_ | refine qw ?_ | refine z0n ?_ | refine z0k ?_ | refine qi ?_ | refine qg (h := ?_) | refine qx (h := ?_) | refine qy (h := ?_) | refine qa ?_ | refine qc ?_ | refine ql ?_ | refine qp ?_ | refine z0a ?_ | rfl
     | (with_reducible first | refine ok_lt ?_ ?_ | refine ok_le ?_ ?_ | refine z0i ?_ ?_ | refine z0l ?_ ?_ | refine z0m ?_ ?_ | refine qu ?_ ?_ | refine ok_if ?_ ?_) <;> intro _ <;> try (exfalso; omega)
   unfold getV
   rw [if_pos h1, getE (by omega)]; rfl
 · rw [show getV v rep = 0 by unfold getV; rw [if_neg h1]]
   repeat' first
     | (dsimp only [Int.toNat_natCast, List.length_nil])
     | with_reducible first | refine z0g ?_ | refine z0f ?_ | refine z0c ?_ | refine z0e ?_ | refine z0b ?_ | refine z0h ?_ | refine qs ?_ | refine qb ?_ | refine z0j ?_ | refine qw ?_ | refine z0n ?_ | refine z0k ?_ | refine qi ?_ | refine qg (h := ?_) | refine qx (h := ?_) | refine qy (h := ?_) | refine qa ?_ | refine qc ?_ | refine ql ?_ | refine qp ?_ | refine z0a ?_ | rfl
     | (with_reducible first | refine ok_lt ?_ ?_ | refine ok_le ?_ ?_ | refine z0i ?_ ?_ | refine z0l ?_ ?_ | refine z0m ?_ ?_ | refine qu ?_ ?_ | refine ok_if ?_ ?_) <;> intro _ <;> try (exfalso; omega)
theorem z1ki {v : List Int} (h : VecOk v) (id : T0) : zxs v id = some (hasV v id) := by
 refine ok_is ?_
 unfold zxs hasV
 rw [z1y7 h]
 repeat' first
   | (dsimp only [Int.toNat_natCast, List.length_nil])
   | with_reducible first | refine z0g ?_ | refine z0f ?_ | refine z0c ?_ | refine z0e ?_ | refine z0b ?_ | refine z0h ?_ | refine qs ?_ | refine qb ?_ | refine z0j ?_ | refine qw ?_ | refine z0n ?_ | refine z0k ?_ | refine qi ?_ | refine qg (h := ?_) | refine qx (h := ?_) | refine qy (h := ?_) | refine qa ?_ | refine qc ?_ | refine ql ?_ | refine qp ?_ | refine z0a ?_ | rfl
   | (with_reducible first | refine ok_lt ?_ ?_ | refine ok_le ?_ ?_ | refine z0i ?_ ?_ | refine z0l ?_ ?_ | refine z0m ?_ ?_ | refine qu ?_ ?_ | refine ok_if ?_ ?_) <;> intro _ <;> try (exfalso; omega)
 · rw [ltI_t (by omega)]; rfl
 · rw [ltI_f (by omega)]; rfl
theorem zu1 (a b : T0) : zbg a b = some (ltI a.2 b.2 || (eqI a.2 b.2 && ltI a.1 b.1)) := by
 refine ok_is ?_
 unfold zbg
 repeat' first
   | (dsimp only [Int.toNat_natCast, List.length_nil])
   | with_reducible first | refine z0g ?_ | refine z0f ?_ | refine z0c ?_ | refine z0e ?_ | refine z0b ?_ | refine z0h ?_ | refine qs ?_ | refine qb ?_ | refine z0j ?_ | refine qw ?_ | refine z0n ?_ | refine z0k ?_ | refine qi ?_ | refine qg (h := ?_) | refine qx (h := ?_) | refine qy (h := ?_) | refine qa ?_ | refine qc ?_ | refine ql ?_ | refine qp ?_ | refine z0a ?_ | rfl
   | (with_reducible first | refine ok_lt ?_ ?_ | refine ok_le ?_ ?_ | refine z0i ?_ ?_ | refine z0l ?_ ?_ | refine z0m ?_ ?_ | refine qu ?_ ?_ | refine ok_if ?_ ?_) <;> intro _ <;> try (exfalso; omega)
 · rw [ltI_t (by assumption)]; rfl
 · rename_i h1 h2
   rw [ltI_f h1, eqI_t h2]; rfl
 · rw [ltI_f (by assumption), eqI_f (by assumption)]; rfl
def leqV (a b : List Int) : Bool := (List.zip a b).all fun x => leI x.1 x.2
end Go.Proofs.Ytfbdjicfkcklfaa
set_option maxRecDepth 100000
set_option linter.unusedSimpArgs false
set_option linter.unusedVariables false
namespace Go.Proofs.Ytfbdjicfkcklfaa
open Go.Tm Go.Ab
def leV (a b : List Int) : Prop := ∀ i, i < 8 → (a[i]?).getD 0 ≤ (b[i]?).getD 0
theorem z1vi (a : List Int) : leV a a := fun _ _ => Int.le_refl _
theorem z1bj {a b c : List Int} (h : leV a b) (g : leV b c) : leV a c := fun i hi => Int.le_trans (h i hi) (g i hi)
theorem z1fu {a b : List Int} (ha : VecOk a) (hb : VecOk b) (i : Nat) (hi : i < 8) : ((joinV a b)[i]?).getD 0 = if (a[i]?).getD 0 < (b[i]?).getD 0 then (b[i]?).getD 0 else (a[i]?).getD 0 := by
 unfold VecOk at ha hb
 have hj : (joinV a b).length = 8 := z17o ha hb
 rw [getE (by omega), getE (by omega), getE (by omega)]
 simp [joinV]
theorem z17w {a b : List Int} (ha : VecOk a) (hb : VecOk b) : leV a (joinV a b) := fun i hi => by
 rw [z1fu ha hb i hi]; split <;> omega
theorem z1po {a b : List Int} (ha : VecOk a) (hb : VecOk b) : leV b (joinV a b) := fun i hi => by
 rw [z1fu ha hb i hi]; split <;> omega
theorem z1o3 {a b c : List Int} (ha : VecOk a) (hb : VecOk b) (h : leV a c) (g : leV b c) : leV (joinV a b) c := fun i hi => by
 rw [z1fu ha hb i hi]; have := h i hi; have := g i hi; split <;> omega
def zeroV : List Int := List.replicate 8 0
theorem ztx : VecOk zeroV := List.length_replicate ..
theorem z1gy (i : Nat) : (zeroV[i]?).getD 0 = 0 := by unfold zeroV; rw [List.getElem?_replicate]; split <;> rfl
theorem z1qy (id : T0) (i : Nat) (hi : i < 8) : ((oneV id)[i]?).getD 0 = if (i : Int) + 1 = id.1 then id.2 else 0 := by
 have hj : (oneV id).length = 8 := zfn id
 rw [getE (by omega)]; simp [oneV]
def zr2 (v : List Int) (id : T0) : Prop := id.2 ≤ getV v id.1
def natV (v : List Int) : Prop := ∀ i, i < 8 → 0 ≤ (v[i]?).getD 0
theorem z12e : natV zeroV := fun i _ => by rw [z1gy]; omega
theorem zqr {a b : List Int} (ha : VecOk a) (hb : VecOk b) (h : natV a) : natV (joinV a b) := fun i hi => Int.le_trans (h i hi) (z17w ha hb i hi)
theorem z1xy {v : List Int} {id : T0} (h : natV v) (g : zr2 v id) : leV (oneV id) v := fun i hi => by
 rw [z1qy id i hi]
 split
 · rename_i e
   unfold zr2 getV at g
   rw [if_pos (by omega), show (id.1 - 1).toNat = i by omega] at g
   exact g
 · exact h i hi
theorem z1gs {v w : List Int} {id : T0} (hv : VecOk v) (h : leV v w) (hw : natV w) (g : zr2 w id) : leV (withV v id) w := z1o3 hv (zfn id) h (z1xy hw g)
theorem z1t1 {v w : List Int} (h : leV v w) (r : Int) : getV v r ≤ getV w r := by
 unfold getV
 split
 · exact h _ (by omega)
 · exact Int.le_refl _
theorem z1ep {v w : List Int} {id : T0} (h : leV v w) (g : zr2 v id) : zr2 w id := Int.le_trans g (z1t1 h _)
theorem z1fd {v : List Int} (hv : VecOk v) {id : T0} (hr : 1 ≤ id.1 ∧ id.1 ≤ 8) : zr2 (withV v id) id := by
 have h := z1po hv (zfn id) (id.1 - 1).toNat (by omega)
 rw [z1qy id _ (by omega), if_pos (by omega)] at h
 unfold zr2 getV
 rw [if_pos hr]; exact h
abbrev zft (e : T1) : Int := e.2.2.1
abbrev zil (e : T1) : List T0 := e.2.2.2.2.2.2.2.1
abbrev z1be (e : T1) : List T0 := e.2.2.2.2.2.2.1
abbrev z1nw (e : T1) : List Int := e.2.2.2.2.2.2.2.2.2.1
abbrev evOff (e : T1) : Int := e.2.2.2.2.2.2.2.2.1
structure EvIn (e : T1) : Prop where
 dep : VecOk e.2.1
 nat : natV e.2.1
 name : e.2.2.2.2.2.1.length ≤ 30
 gone : (z1be e).length ≤ 10
 base : (zil e).length ≤ 10
 data : (z1nw e).length ≤ 250
 off : -9223372036854775808 ≤ evOff e ∧ evOff e ≤ 9223372036854775807
def Chain (l : List T1) : Prop := ∀ i (h : i < l.length), ∀ b, (zil l[i])[0]? = some b → ∃ j, ∃ h : j < l.length, j < i ∧ l[j].1 = b
theorem in_is (l : List T0) (x : T0) (hl : l.length ≤ 1000) : ∃ b, zhu l x = some b := by
 have : Ok (zhu l x) (fun _ => True) := by
   unfold zhu
   refine z0a (z1o l.length (fun i _ => (l, (i : Int), x)) (fun _ (_ : Unit) => True) () rfl trivial (fun _ _ => ?_) fun i _ hi _ => ?_)
   · unfold z6z zh4
     dsimp only
     repeat' first
       | (dsimp only [Int.toNat_natCast, List.length_nil])
       | ((with_reducible refine z0z ?_ ?_) <;> intro _ <;> try (exfalso; omega))
       | with_reducible first | refine z0g ?_ | refine z0f ?_ | refine z0c ?_ | refine z0e ?_ | refine z0b ?_ | refine z0h ?_ | refine qs ?_ | refine qb ?_ | refine z0j ?_ | refine qw ?_ | refine z0n ?_ | refine z0k ?_ | refine qi ?_ | refine qg (h := ?_) | refine qx (h := ?_) | refine qy (h := ?_) | refine qa ?_ | refine qc ?_ | refine ql ?_ | refine qp ?_ | refine z0a ?_ | rfl
       | (with_reducible first | refine ok_lt ?_ ?_ | refine ok_le ?_ ?_ | refine z0i ?_ ?_ | refine z0l ?_ ?_ | refine z0m ?_ ?_ | refine qu ?_ ?_ | refine ok_if ?_ ?_) <;> intro _ <;> try (exfalso; omega)
   · unfold z6z zh4
     dsimp only
     repeat' first
       | (dsimp only [Int.toNat_natCast, List.length_nil])
       | ((with_reducible refine z0z ?_ ?_) <;> intro _ <;> try (exfalso; omega))
       | with_reducible first | refine z0g ?_ | refine z0f ?_ | refine z0c ?_ | refine z0e ?_ | refine z0b ?_ | refine z0h ?_ | refine qs ?_ | refine qb ?_ | refine z0j ?_ | refine qw ?_ | refine z0n ?_ | refine z0k ?_ | refine qi ?_ | refine qg (h := ?_) | refine qx (h := ?_) | refine qy (h := ?_) | refine qa ?_ | refine qc ?_ | refine ql ?_ | refine qp ?_ | refine z0a ?_ | rfl
       | (with_reducible first | refine ok_lt ?_ ?_ | refine ok_le ?_ ?_ | refine z0i ?_ ?_ | refine z0l ?_ ?_ | refine z0m ?_ ?_ | refine qu ?_ ?_ | refine ok_if ?_ ?_) <;> intro _ <;> try (exfalso; omega)
     exact ⟨(), by rw [z0r (by omega)]; rfl, trivial⟩
 obtain ⟨b, h, _⟩ := this
 exact ⟨b, h⟩
theorem z10r (e : T1) : zfq e = some (eqI (zft e) 3 || (eqI (zft e) 4 || eqI (zft e) 5)) := by
 refine ok_is ?_
 unfold zfq
 repeat' first
   | (dsimp only [Int.toNat_natCast, List.length_nil])
   | ((with_reducible refine z0z ?_ ?_) <;> intro _ <;> try (exfalso; omega))
   | with_reducible first | refine z0g ?_ | refine z0f ?_ | refine z0c ?_ | refine z0e ?_ | refine z0b ?_ | refine z0h ?_ | refine qs ?_ | refine qb ?_ | refine z0j ?_ | refine qw ?_ | refine z0n ?_ | refine z0k ?_ | refine qi ?_ | refine qg (h := ?_) | refine qx (h := ?_) | refine qy (h := ?_) | refine qa ?_ | refine qc ?_ | refine ql ?_ | refine qp ?_ | refine z0a ?_ | rfl
   | (with_reducible first | refine ok_lt ?_ ?_ | refine ok_le ?_ ?_ | refine z0i ?_ ?_ | refine z0l ?_ ?_ | refine z0m ?_ ?_ | refine qu ?_ ?_ | refine ok_if ?_ ?_) <;> intro _ <;> try (exfalso; omega)
 · rename_i h; rw [eqI_t h]; rfl
 · rename_i h g; rw [eqI_f h, eqI_t g]; rfl
 · rename_i h g; rw [eqI_f h, eqI_f g]; rfl
theorem z1x6 (l : List T1) (x : T0) (hl : l.length ≤ 1000) : Ok (zwt l x) fun r => (r.2 = true ∧ ∃ i, ∃ h : i < l.length, r.1 = l[i] ∧ l[i].1 = x ∧ ∀ j (hj : j < l.length), j < i → ¬ l[j].1 = x) ∨ r.2 = false := by
 unfold zwt
 refine z0a (z1o l.length (fun i _ => (l, (i : Int), x, _)) (fun i (_ : Unit) => ∀ j (hj : j < l.length), j < i → ¬ l[j].1 = x) () rfl (fun j _ h => by omega) (fun _ _ => ?_) fun i _ hi hI => ?_)
 · unfold z7l zjt
   dsimp only
   repeat' first
     | (dsimp only [Int.toNat_natCast, List.length_nil])
     | ((with_reducible refine z0z ?_ ?_) <;> intro _ <;> try (exfalso; omega))
     | with_reducible first | refine z0g ?_ | refine z0f ?_ | refine z0c ?_ | refine z0e ?_ | refine z0b ?_ | refine z0h ?_ | refine qs ?_ | refine qb ?_ | refine z0j ?_ | refine qw ?_ | refine z0n ?_ | refine z0k ?_ | refine qi ?_ | refine qg (h := ?_) | refine qx (h := ?_) | refine qy (h := ?_) | refine qa ?_ | refine qc ?_ | refine ql ?_ | refine qp ?_ | refine z0a ?_ | rfl
     | (with_reducible first | refine ok_lt ?_ ?_ | refine ok_le ?_ ?_ | refine z0i ?_ ?_ | refine z0l ?_ ?_ | refine z0m ?_ ?_ | refine qu ?_ ?_ | refine ok_if ?_ ?_) <;> intro _ <;> try (exfalso; omega)
   exact .inr rfl
 · unfold z7l zjt
   dsimp only
   repeat' first
     | (dsimp only [Int.toNat_natCast, List.length_nil])
     | ((with_reducible refine z0z ?_ ?_) <;> intro _ <;> try (exfalso; omega))
     | with_reducible first | refine z0g ?_ | refine z0f ?_ | refine z0c ?_ | refine z0e ?_ | refine z0b ?_ | refine z0h ?_ | refine qs ?_ | refine qb ?_ | refine z0j ?_ | refine qw ?_ | refine z0n ?_ | refine z0k ?_ | refine qi ?_ | refine qg (h := ?_) | refine qx (h := ?_) | refine qy (h := ?_) | refine qa ?_ | refine qc ?_ | refine ql ?_ | refine qp ?_ | refine z0a ?_ | rfl
     | (with_reducible first | refine ok_lt ?_ ?_ | refine ok_le ?_ ?_ | refine z0i ?_ ?_ | refine z0l ?_ ?_ | refine z0m ?_ ?_ | refine qu ?_ ?_ | refine ok_if ?_ ?_) <;> intro _ <;> try (exfalso; omega)
   · rename_i h1 h2
     refine .inl ⟨rfl, i, hi, rfl, ?_, hI⟩
     exact h2
   · rename_i h1 h2
     refine ⟨(), by rw [z0r (by omega)]; rfl, fun j hj hlt => ?_⟩
     by_cases e : j = i
     · subst e; exact h2
     · exact hI j hj (by omega)
theorem z1n6 (n : Int) (hn : n ≤ 1000) : Ok (zp5 n) fun r => r.length = n.toNat := by
 unfold zp5
 refine z0a (z1o n.toNat (fun i _ => (n, List.replicate i (0 : Int), (i : Int))) (fun _ (_ : Unit) => True) () rfl trivial (fun _ _ => ?_) fun i _ hi _ => ?_)
 · unfold z5k zgj
   dsimp only
   repeat' first
     | (dsimp only [Int.toNat_natCast, List.length_nil])
     | ((with_reducible refine z0z ?_ ?_) <;> intro _ <;> try (exfalso; omega))
     | with_reducible first | refine z0g ?_ | refine z0f ?_ | refine z0c ?_ | refine z0e ?_ | refine z0b ?_ | refine z0h ?_ | refine qs ?_ | refine qb ?_ | refine z0j ?_ | refine qw ?_ | refine z0n ?_ | refine z0k ?_ | refine qi ?_ | refine qg (h := ?_) | refine qx (h := ?_) | refine qy (h := ?_) | refine qa ?_ | refine qc ?_ | refine ql ?_ | refine qp ?_ | refine z0a ?_ | rfl
     | (with_reducible first | refine ok_lt ?_ ?_ | refine ok_le ?_ ?_ | refine z0i ?_ ?_ | refine z0l ?_ ?_ | refine z0m ?_ ?_ | refine qu ?_ ?_ | refine ok_if ?_ ?_) <;> intro _ <;> try (exfalso; omega)
   exact List.length_replicate ..
 · unfold z5k zgj
   dsimp only
   repeat' first
     | (dsimp only [Int.toNat_natCast, List.length_nil])
     | ((with_reducible refine z0z ?_ ?_) <;> intro _ <;> try (exfalso; omega))
     | with_reducible first | refine z0g ?_ | refine z0f ?_ | refine z0c ?_ | refine z0e ?_ | refine z0b ?_ | refine z0h ?_ | refine qs ?_ | refine qb ?_ | refine z0j ?_ | refine qw ?_ | refine z0n ?_ | refine z0k ?_ | refine qi ?_ | refine qg (h := ?_) | refine qx (h := ?_) | refine qy (h := ?_) | refine qa ?_ | refine qc ?_ | refine ql ?_ | refine qp ?_ | refine z0a ?_ | rfl
     | (with_reducible first | refine ok_lt ?_ ?_ | refine ok_le ?_ ?_ | refine z0i ?_ ?_ | refine z0l ?_ ?_ | refine z0m ?_ ?_ | refine qu ?_ ?_ | refine ok_if ?_ ?_) <;> intro _ <;> try (exfalso; omega)
   exact ⟨(), by rw [z0r (by omega), List.replicate_succ' (n := i)]; rfl, trivial⟩
theorem z1ur (data : List Int) (n : Int) (hd : data.length ≤ 250) : Ok (z11q data n) fun r => r.1.length ≤ 250 := by
 unfold z11q
 repeat' first
   | (dsimp only [Int.toNat_natCast, List.length_nil])
   | ((with_reducible refine z1c (z1n6 _ ?_) ?_))
   | ((with_reducible refine z0z ?_ ?_) <;> intro _ <;> try (exfalso; omega))
   | with_reducible first | refine z0g ?_ | refine z0f ?_ | refine z0c ?_ | refine z0e ?_ | refine z0b ?_ | refine z0h ?_ | refine qs ?_ | refine qb ?_ | refine z0j ?_ | refine qw ?_ | refine z0n ?_ | refine z0k ?_ | refine qi ?_ | refine qg (h := ?_) | refine qx (h := ?_) | refine qy (h := ?_) | refine qa ?_ | refine qc ?_ | refine ql ?_ | refine qp ?_ | refine z0a ?_ | rfl
   | (with_reducible first | refine ok_lt ?_ ?_ | refine ok_le ?_ ?_ | refine z0i ?_ ?_ | refine z0l ?_ ?_ | refine z0m ?_ ?_ | refine qu ?_ ?_ | refine ok_if ?_ ?_) <;> intro _ <;> try (exfalso; omega)
 · exact Nat.zero_le _
 · exact Nat.zero_le _
 · rw [z0r (by omega)]; omega
 · intro r hr
   rw [z0r (by omega)] at hr
   repeat' first
     | (dsimp only [Int.toNat_natCast, List.length_nil])
     | ((with_reducible refine z0z ?_ ?_) <;> intro _ <;> try (exfalso; omega))
     | with_reducible first | refine z0g ?_ | refine z0f ?_ | refine z0c ?_ | refine z0e ?_ | refine z0b ?_ | refine z0h ?_ | refine qs ?_ | refine qb ?_ | refine z0j ?_ | refine qw ?_ | refine z0n ?_ | refine z0k ?_ | refine qi ?_ | refine qg (h := ?_) | refine qx (h := ?_) | refine qy (h := ?_) | refine qa ?_ | refine qc ?_ | refine ql ?_ | refine qp ?_ | refine z0a ?_ | rfl
     | (with_reducible first | refine ok_lt ?_ ?_ | refine ok_le ?_ ?_ | refine z0i ?_ ?_ | refine z0l ?_ ?_ | refine z0m ?_ ?_ | refine qu ?_ ?_ | refine ok_if ?_ ?_) <;> intro _ <;> try (exfalso; omega)
   show (subL _ _ _).length ≤ 250
   unfold subL; simp; omega
theorem z1nj (data : List Int) (off : Int) (t : List Int) (hd : data.length ≤ 250) (ht : t.length ≤ 250) (ho : -9223372036854775808 ≤ off ∧ off ≤ 9223372036854775807) : Ok (zu6 data off t) fun r => r.1.length ≤ 250 := by
 unfold zu6
 by_cases h0 : off < 0
 · repeat' first
     | (dsimp only [Int.toNat_natCast, List.length_nil])
     | ((with_reducible refine z0z ?_ ?_) <;> intro _ <;> try (exfalso; omega))
     | with_reducible first | refine z0g ?_ | refine z0f ?_ | refine z0c ?_ | refine z0e ?_ | refine z0b ?_ | refine z0h ?_ | refine qs ?_ | refine qb ?_ | refine z0j ?_ | refine qw ?_ | refine z0n ?_ | refine z0k ?_ | refine qi ?_ | refine qg (h := ?_) | refine qx (h := ?_) | refine qy (h := ?_) | refine qa ?_ | refine qc ?_ | refine ql ?_ | refine qp ?_ | refine z0a ?_ | rfl
     | (with_reducible first | refine ok_lt ?_ ?_ | refine ok_le ?_ ?_ | refine z0i ?_ ?_ | refine z0l ?_ ?_ | refine z0m ?_ ?_ | refine qu ?_ ?_ | refine ok_if ?_ ?_) <;> intro _ <;> try (exfalso; omega)
   exact Nat.zero_le _
 by_cases h1 : 200 < off
 · repeat' first
     | (dsimp only [Int.toNat_natCast, List.length_nil])
     | ((with_reducible refine z0z ?_ ?_) <;> intro _ <;> try (exfalso; omega))
     | with_reducible first | refine z0g ?_ | refine z0f ?_ | refine z0c ?_ | refine z0e ?_ | refine z0b ?_ | refine z0h ?_ | refine qs ?_ | refine qb ?_ | refine z0j ?_ | refine qw ?_ | refine z0n ?_ | refine z0k ?_ | refine qi ?_ | refine qg (h := ?_) | refine qx (h := ?_) | refine qy (h := ?_) | refine qa ?_ | refine qc ?_ | refine ql ?_ | refine qp ?_ | refine z0a ?_ | rfl
     | (with_reducible first | refine ok_lt ?_ ?_ | refine ok_le ?_ ?_ | refine z0i ?_ ?_ | refine z0l ?_ ?_ | refine z0m ?_ ?_ | refine qu ?_ ?_ | refine ok_if ?_ ?_) <;> intro _ <;> try (exfalso; omega)
   exact Nat.zero_le _
 rw [z0r (n := off + (t.length : Nat)) (by omega), z0r (n := off + (t.length : Nat) - (data.length : Nat)) (by omega)]
 repeat' first
   | (dsimp only [Int.toNat_natCast, List.length_nil])
   | ((with_reducible refine z1c (z1n6 _ (by omega)) ?_))
   | ((with_reducible refine z0z ?_ ?_) <;> intro _ <;> try (exfalso; omega))
   | with_reducible first | refine z0g ?_ | refine z0f ?_ | refine z0c ?_ | refine z0e ?_ | refine z0b ?_ | refine z0h ?_ | refine qs ?_ | refine qb ?_ | refine z0j ?_ | refine qw ?_ | refine z0n ?_ | refine z0k ?_ | refine qi ?_ | refine qg (h := ?_) | refine qx (h := ?_) | refine qy (h := ?_) | refine qa ?_ | refine qc ?_ | refine ql ?_ | refine qp ?_ | refine z0a ?_ | rfl
   | (with_reducible first | refine ok_lt ?_ ?_ | refine ok_le ?_ ?_ | refine z0i ?_ ?_ | refine z0l ?_ ?_ | refine z0m ?_ ?_ | refine qu ?_ ?_ | refine ok_if ?_ ?_) <;> intro _ <;> try (exfalso; omega)
 · exact Nat.zero_le _
 · exact Nat.zero_le _
 · intro r hr
   have e1 : (subL (data ++ r) 0 off).length = off.toNat := by unfold subL; simp; omega
   have e2 : (subL (data ++ r) (off + (t.length : Nat)) (((data ++ r).length : Nat) : Int)).length ≤ 250 := by unfold subL; simp; omega
   simp only [List.length_append] at e2
   repeat' first
     | (dsimp only [Int.toNat_natCast, List.length_nil])
     | ((with_reducible refine z0z ?_ ?_) <;> intro _ <;> try (exfalso; omega))
     | with_reducible first | refine z0g ?_ | refine z0f ?_ | refine z0c ?_ | refine z0e ?_ | refine z0b ?_ | refine z0h ?_ | refine qs ?_ | refine qb ?_ | refine z0j ?_ | refine qw ?_ | refine z0n ?_ | refine z0k ?_ | refine qi ?_ | refine qg (h := ?_) | refine qx (h := ?_) | refine qy (h := ?_) | refine qa ?_ | refine qc ?_ | refine ql ?_ | refine qp ?_ | refine z0a ?_ | rfl
     | (with_reducible first | refine ok_lt ?_ ?_ | refine ok_le ?_ ?_ | refine z0i ?_ ?_ | refine z0l ?_ ?_ | refine z0m ?_ ?_ | refine qu ?_ ?_ | refine ok_if ?_ ?_) <;> intro _ <;> try (exfalso; omega)
   · rw [List.length_append, List.length_append, e1]
     have : (subL (data ++ r) (off + (t.length : Nat)) (((data ++ r).length : Nat) : Int)).length = (data ++ r).length - (off + (t.length : Nat)).toNat := by unfold subL; simp; omega
     rw [this, List.length_append]; omega
theorem z1rh : MonoR zka := by
 intro r r' h x y hy
 unfold zka zpg at *
 rw [Option.bind_eq_some_iff] at hy ⊢
 obtain ⟨f, h1, h2⟩ := hy
 refine ⟨f, h1, ?_⟩
 cases hf : f.2 with
 | false => rw [hf] at h2; exact h2
 | true =>
   rw [hf] at h2
   simp only [Bool.not_true, cond_false] at h2 ⊢
   cases hk : eqI f.1.2.2.1 5 with
   | true => rw [hk] at h2; exact h2
   | false =>
     rw [hk] at h2
     simp only [cond_false] at h2 ⊢
     rw [Option.bind_eq_some_iff] at h2 ⊢
     obtain ⟨j, h3, h4⟩ := h2
     refine ⟨j, ?_, h4⟩
     unfold z0s at h3 ⊢
     cases hb : Nat.ble f.1.2.2.2.2.2.2.2.1.length 9223372036854775807 with
     | false => rw [hb] at h3; cases h3
     | true =>
       rw [hb] at h3
       simp only [cond_true] at h3 ⊢
       cases hl : ltI 0 ((f.1.2.2.2.2.2.2.2.1.length : Nat) : Int) with
       | false => rw [hl] at h3; exact h3
       | true =>
         rw [hl] at h3
         simp only [cond_true] at h3 ⊢
         rw [Option.bind_eq_some_iff] at h3 ⊢
         obtain ⟨b, h5, h6⟩ := h3
         refine ⟨b, h5, ?_⟩
         rw [Option.bind_eq_some_iff] at h6 ⊢
         obtain ⟨d, h7, h8⟩ := h6
         exact ⟨d, h _ _ h7, h8⟩
theorem z1o1 {l : List T1} (hl : l.length ≤ 1000) (hin : ∀ e, e ∈ l → EvIn e) (hc : Chain l) : ∀ (k : Nat) (x : T0), (∀ i (h : i < l.length), l[i].1 = x → (∀ j (hj : j < l.length), j < i → ¬ l[j].1 = x) → i < k) → Ok (iterR zka (k + 1) (l, x)) fun d => d.length ≤ 250
 | k, x, hk => by
   show Ok (zpg (iterR zka k) l x) _
   unfold zpg
   refine z1c (z1x6 l x hl) fun f hf => ?_
   rcases hf with ⟨f1, i, hi, f2, f3, f4⟩ | f1
   · rw [f1]
     have he := hin _ (List.getElem_mem hi)
     have hik := hk i hi f3 f4
     have hb10 := he.base
     simp only [zil] at hb10
     rw [← f2] at he hb10
     obtain ⟨e, b⟩ := f
     simp only at f1 f2 he hb10 ⊢
     repeat' first
       | (dsimp only [Int.toNat_natCast, List.length_nil])
       | ((with_reducible refine z0z ?_ ?_) <;> intro _ <;> try (exfalso; omega))
       | with_reducible first | refine z0g ?_ | refine z0f ?_ | refine z0c ?_ | refine z0e ?_ | refine z0b ?_ | refine z0h ?_ | refine qs ?_ | refine qb ?_ | refine z0j ?_ | refine qw ?_ | refine z0n ?_ | refine z0k ?_ | refine qi ?_ | refine qg (h := ?_) | refine qx (h := ?_) | refine qy (h := ?_) | refine qa ?_ | refine qc ?_ | refine ql ?_ | refine qp ?_ | refine z0a ?_ | rfl
       | (with_reducible first | refine ok_lt ?_ ?_ | refine ok_le ?_ ?_ | refine z0i ?_ ?_ | refine z0l ?_ ?_ | refine z0m ?_ ?_ | refine qu ?_ ?_ | refine ok_if ?_ ?_) <;> intro _ <;> try (exfalso; omega)
     · exact he.data
     · rename_i h5 h6
       have hb0 : 0 < (zil e).length := by simp only [zil]; omega
       refine z9a (R := fun d : List Int => d.length ≤ 250) ?_ fun d hd => ?_
       · obtain ⟨j, hj, hji, ej⟩ := hc i hi (zil e)[0] (by rw [← f2, getE hb0])
         obtain ⟨k', rfl⟩ : ∃ k', k = k' + 1 := ⟨k - 1, by omega⟩
         refine z1o1 hl hin hc k' _ fun i' h' e1 e2 => ?_
         have : i' ≤ j := by
           apply Classical.byContradiction
           intro hlt
           exact e2 j hj (by omega) ej
         omega
       · repeat' first
           | (dsimp only [Int.toNat_natCast, List.length_nil])
           | ((with_reducible refine z0z ?_ ?_) <;> intro _ <;> try (exfalso; omega))
           | with_reducible first | refine z0g ?_ | refine z0f ?_ | refine z0c ?_ | refine z0e ?_ | refine z0b ?_ | refine z0h ?_ | refine qs ?_ | refine qb ?_ | refine z0j ?_ | refine qw ?_ | refine z0n ?_ | refine z0k ?_ | refine qi ?_ | refine qg (h := ?_) | refine qx (h := ?_) | refine qy (h := ?_) | refine qa ?_ | refine qc ?_ | refine ql ?_ | refine qp ?_ | refine z0a ?_ | rfl
           | (with_reducible first | refine ok_lt ?_ ?_ | refine ok_le ?_ ?_ | refine z0i ?_ ?_ | refine z0l ?_ ?_ | refine z0m ?_ ?_ | refine qu ?_ ?_ | refine ok_if ?_ ?_) <;> intro _ <;> try (exfalso; omega)
         · refine z9a (z1ur _ _ hd) fun _ h => ?_
           exact z0c h
         · refine z9a (z1nj _ _ _ hd he.data he.off) fun _ h => ?_
           exact z0c h
     · refine z9a (z1ur _ _ (Nat.zero_le _)) fun _ h => ?_
       exact z0c h
     · refine z9a (z1nj _ _ _ (Nat.zero_le _) he.data he.off) fun _ h => ?_
       exact z0c h
   · rw [f1]
     repeat' first
       | (dsimp only [Int.toNat_natCast, List.length_nil])
       | ((with_reducible refine z0z ?_ ?_) <;> intro _ <;> try (exfalso; omega))
       | with_reducible first | refine z0g ?_ | refine z0f ?_ | refine z0c ?_ | refine z0e ?_ | refine z0b ?_ | refine z0h ?_ | refine qs ?_ | refine qb ?_ | refine z0j ?_ | refine qw ?_ | refine z0n ?_ | refine z0k ?_ | refine qi ?_ | refine qg (h := ?_) | refine qx (h := ?_) | refine qy (h := ?_) | refine qa ?_ | refine qc ?_ | refine ql ?_ | refine qp ?_ | refine z0a ?_ | rfl
       | (with_reducible first | refine ok_lt ?_ ?_ | refine ok_le ?_ ?_ | refine z0i ?_ ?_ | refine z0l ?_ ?_ | refine z0m ?_ ?_ | refine qu ?_ ?_ | refine ok_if ?_ ?_) <;> intro _ <;> try (exfalso; omega)
     exact Nat.zero_le _
theorem z1iq {l : List T1} (hl : l.length ≤ 1000) (hin : ∀ e, e ∈ l → EvIn e) (hc : Chain l) (x : T0) : Ok (z12s l x) fun d => d.length ≤ 250 :=
 z1wo z1rh (z1o1 hl hin hc l.length x fun i h _ _ => h)
end Go.Proofs.Ytfbdjicfkcklfaa
set_option maxRecDepth 100000
set_option linter.unusedSimpArgs false
set_option linter.unusedVariables false
namespace Go.Proofs.Ytfbdjicfkcklfaa
open Go.Tm Go.Ab
def z8l (l : List T1) : List Int := l.foldl (fun v e => withV v e.1) zeroV
theorem z1im (l : List T1) (e : T1) : z8l (l ++ [e]) = withV (z8l l) e.1 := by simp [z8l]
theorem z1gx : ∀ (l : List T1) (v : List Int), VecOk v → natV v → VecOk (l.foldl (fun v e => withV v e.1) v) ∧ natV (l.foldl (fun v e => withV v e.1) v) ∧ leV v (l.foldl (fun v e => withV v e.1) v)
 | [], v, h, g => ⟨h, g, z1vi v⟩
 | e :: l, v, h, g => by
   obtain ⟨h1, h2, h3⟩ := z1gx l (withV v e.1) (zjl h _) (zqr h (zfn _) g)
   exact ⟨h1, h2, z1bj (z17w h (zfn _)) h3⟩
theorem z1eq : ∀ (l : List T1) (v : List Int), VecOk v → natV v → ∀ e, e ∈ l → 1 ≤ e.1.1 ∧ e.1.1 ≤ 8 → zr2 (l.foldl (fun v e => withV v e.1) v) e.1
 | a :: l, v, h, g, e, he, hr => by
   have hw := zjl h a.1
   have hn := zqr h (zfn a.1) g
   rcases List.mem_cons.1 he with rfl | he
   · exact z1ep (z1gx l _ hw hn).2.2 (z1fd h hr)
   · exact z1eq l _ hw hn e he hr
theorem zdx (l : List T1) : VecOk (z8l l) ∧ natV (z8l l) := by
 obtain ⟨h1, h2, _⟩ := z1gx l zeroV ztx z12e
 exact ⟨h1, h2⟩
theorem z1ol (l : List T1) (hl : l.length ≤ 1000) : zpe l = some (z8l l) := by
 refine ok_is ?_
 unfold zpe
 refine z0a (z1o l.length (fun i _ => (l, (i : Int), List.replicate 8 (0 : Int), z8l (l.take i))) (fun _ (_ : Unit) => True) () rfl trivial (fun _ _ => ?_) fun i _ hi _ => ?_)
 · unfold z5i zgb
   dsimp only
   repeat' first
     | (dsimp only [Int.toNat_natCast, List.length_nil])
     | ((with_reducible refine z0z ?_ ?_) <;> intro _ <;> try (exfalso; omega))
     | with_reducible first | refine z0g ?_ | refine z0f ?_ | refine z0c ?_ | refine z0e ?_ | refine z0b ?_ | refine z0h ?_ | refine qs ?_ | refine qb ?_ | refine z0j ?_ | refine qw ?_ | refine z0n ?_ | refine z0k ?_ | refine qi ?_ | refine qg (h := ?_) | refine qx (h := ?_) | refine qy (h := ?_) | refine qa ?_ | refine qc ?_ | refine ql ?_ | refine qp ?_ | refine z0a ?_ | rfl
     | (with_reducible first | refine ok_lt ?_ ?_ | refine ok_le ?_ ?_ | refine z0i ?_ ?_ | refine z0l ?_ ?_ | refine z0m ?_ ?_ | refine qu ?_ ?_ | refine ok_if ?_ ?_) <;> intro _ <;> try (exfalso; omega)
   rw [List.take_length]
 · unfold z5i zgb
   dsimp only
   repeat' first
     | (dsimp only [Int.toNat_natCast, List.length_nil])
     | ((with_reducible refine ok_eq (zkv (zdx _).1 _) ?_))
     | ((with_reducible refine z0z ?_ ?_) <;> intro _ <;> try (exfalso; omega))
     | with_reducible first | refine z0g ?_ | refine z0f ?_ | refine z0c ?_ | refine z0e ?_ | refine z0b ?_ | refine z0h ?_ | refine qs ?_ | refine qb ?_ | refine z0j ?_ | refine qw ?_ | refine z0n ?_ | refine z0k ?_ | refine qi ?_ | refine qg (h := ?_) | refine qx (h := ?_) | refine qy (h := ?_) | refine qa ?_ | refine qc ?_ | refine ql ?_ | refine qp ?_ | refine z0a ?_ | rfl
     | (with_reducible first | refine ok_lt ?_ ?_ | refine ok_le ?_ ?_ | refine z0i ?_ ?_ | refine z0l ?_ ?_ | refine z0m ?_ ?_ | refine qu ?_ ?_ | refine ok_if ?_ ?_) <;> intro _ <;> try (exfalso; omega)
   exact ⟨(), by rw [z0r (by omega), List.take_succ_eq_append_getElem hi, z1im]; rfl, trivial⟩
structure Evs (l : List T1) (K : List Int) : Prop where
 len : l.length ≤ 1000
 ev : ∀ e, e ∈ l → EvIn e
 chain : Chain l
 rep : ∀ e, e ∈ l → 1 ≤ e.1.1 ∧ e.1.1 ≤ 8
 vec : VecOk K
 nat : natV K
 means : ∀ e, e ∈ l → zr2 K e.1
 dep : ∀ e, e ∈ l → leV e.2.1 K
structure ByOk (K b : List Int) : Prop where
 v : VecOk b
 n : natV b
 le : leV b K
theorem ByOk.zero {l : List T1} {K : List Int} (h : Evs l K) : ByOk K (List.replicate 8 (0 : Int)) := ⟨ztx, z12e, fun i hi => by have := z1gy i; unfold zeroV at this; rw [this]; exact h.nat i hi⟩
theorem ByOk.join {K a b : List Int} (h : ByOk K a) (g : ByOk K b) : ByOk K (joinV a b) := ⟨z17o h.v g.v, zqr h.v g.v h.n, z1o3 h.v g.v h.le g.le⟩
theorem ByOk.with {l : List T1} {K a : List Int} (h : Evs l K) (g : ByOk K a) {e : T1} (he : e ∈ l) : ByOk K (withV a e.1) := ⟨zjl g.v _, zqr g.v (zfn _) g.n, z1gs g.v g.le h.nat (h.means e he)⟩
structure EntOk (l : List T1) (K : List Int) (x : T2) : Prop where
 by' : ByOk K x.2.2.2.2
 ev : ∃ e, e ∈ l ∧ (zft e = 1 ∨ zft e = 2 ∨ zft e = 7) ∧ x.1 = e.1 ∧ x.2.1 = e.2.2.2.2.1 ∧ x.2.2.1 = e.2.2.2.2.2.1 ∧ x.2.2.2.1 = if zft e = 7 then e.2.2.2.1 else e.1
theorem z1sx {P : T2 → Prop} (hv : ∀ y, P y → VecOk y.2.2.2.2) (hj : ∀ y z, P y → P z → P (y.1, y.2.1, y.2.2.1, y.2.2.2.1, joinV y.2.2.2.2 z.2.2.2.2)) (l : List T2) (x : T2) (hl : l.length ≤ 2000) (hp : ∀ y, y ∈ l → P y) (hx : P x) :
   Ok (zgy l x) fun r => r.length ≤ l.length + 1 ∧ ∀ y, y ∈ r → P y := by
 unfold zgy
 repeat' first
   | (dsimp only [Int.toNat_natCast, List.length_nil])
   | ((with_reducible refine z0z ?_ ?_) <;> intro _ <;> try (exfalso; omega))
   | with_reducible first | refine z0g ?_ | refine z0f ?_ | refine z0c ?_ | refine z0e ?_ | refine z0b ?_ | refine z0h ?_ | refine qs ?_ | refine qb ?_ | refine z0j ?_ | refine qw ?_ | refine z0n ?_ | refine z0k ?_ | refine qi ?_ | refine qg (h := ?_) | refine qx (h := ?_) | refine qy (h := ?_) | refine qa ?_ | refine qc ?_ | refine ql ?_ | refine qp ?_ | refine z0a ?_ | rfl
   | (with_reducible first | refine ok_lt ?_ ?_ | refine ok_le ?_ ?_ | refine z0i ?_ ?_ | refine z0l ?_ ?_ | refine z0m ?_ ?_ | refine qu ?_ ?_ | refine ok_if ?_ ?_) <;> intro _ <;> try (exfalso; omega)
 refine z1o l.length (fun i (a : Bool × List T2) => (l, a.1, (i : Int), x, a.2)) (fun i a => a.2.length ≤ i + (if a.1 = true then 1 else 0) ∧ ∀ y, y ∈ a.2 → P y) (false, []) rfl ⟨Nat.zero_le _, fun y hy => by cases hy⟩ (fun a ha => ?_) fun i a hi ha => ?_
 · obtain ⟨put, out⟩ := a
   obtain ⟨h1, h2⟩ := ha
   unfold z3y zcw
   dsimp only
   simp only at h1 h2
   have hb : out.length ≤ l.length + 1 := by split at h1 <;> omega
   cases put with
   | true =>
     repeat' first
       | (dsimp only [Int.toNat_natCast, List.length_nil])
       | ((with_reducible refine z0z ?_ ?_) <;> intro _ <;> try (exfalso; omega))
       | with_reducible first | refine z0g ?_ | refine z0f ?_ | refine z0c ?_ | refine z0e ?_ | refine z0b ?_ | refine z0h ?_ | refine qs ?_ | refine qb ?_ | refine z0j ?_ | refine qw ?_ | refine z0n ?_ | refine z0k ?_ | refine qi ?_ | refine qg (h := ?_) | refine qx (h := ?_) | refine qy (h := ?_) | refine qa ?_ | refine qc ?_ | refine ql ?_ | refine qp ?_ | refine z0a ?_ | rfl
       | (with_reducible first | refine ok_lt ?_ ?_ | refine ok_le ?_ ?_ | refine z0i ?_ ?_ | refine z0l ?_ ?_ | refine z0m ?_ ?_ | refine qu ?_ ?_ | refine ok_if ?_ ?_) <;> intro _ <;> try (exfalso; omega)
     exact ⟨hb, h2⟩
   | false =>
     simp only [Bool.false_eq_true, if_false] at h1
     repeat' first
       | (dsimp only [Int.toNat_natCast, List.length_nil])
       | ((with_reducible refine z0z ?_ ?_) <;> intro _ <;> try (exfalso; omega))
       | with_reducible first | refine z0g ?_ | refine z0f ?_ | refine z0c ?_ | refine z0e ?_ | refine z0b ?_ | refine z0h ?_ | refine qs ?_ | refine qb ?_ | refine z0j ?_ | refine qw ?_ | refine z0n ?_ | refine z0k ?_ | refine qi ?_ | refine qg (h := ?_) | refine qx (h := ?_) | refine qy (h := ?_) | refine qa ?_ | refine qc ?_ | refine ql ?_ | refine qp ?_ | refine z0a ?_ | rfl
       | (with_reducible first | refine ok_lt ?_ ?_ | refine ok_le ?_ ?_ | refine z0i ?_ ?_ | refine z0l ?_ ?_ | refine z0m ?_ ?_ | refine qu ?_ ?_ | refine ok_if ?_ ?_) <;> intro _ <;> try (exfalso; omega)
     refine ⟨by simp; omega, fun y hy => ?_⟩
     rcases List.mem_append.1 hy with hy | hy
     · exact h2 y hy
     · simp only [List.mem_singleton] at hy; subst hy; exact hx
 · obtain ⟨put, out⟩ := a
   obtain ⟨h1, h2⟩ := ha
   unfold z3y zcw
   dsimp only
   simp only at h1 h2
   have hb : out.length ≤ i + 1 := by split at h1 <;> omega
   have hpi := hp _ (List.getElem_mem hi)
   have add : ∀ (o : List T2) (z : T2), (∀ y, y ∈ o → P y) → P z → ∀ y, y ∈ o ++ [z] → P y := fun o z ho hz y hy => by
     rcases List.mem_append.1 hy with hy | hy
     · exact ho y hy
     · simp only [List.mem_singleton] at hy; subst hy; exact hz
   repeat' first
     | (dsimp only [Int.toNat_natCast, List.length_nil])
     | ((with_reducible refine ok_eq (z1dh (hv _ hpi) (hv _ hx)) ?_))
     | ((with_reducible refine ok_eq (zu1 _ _) ?_))
     | ((with_reducible refine z0z ?_ ?_) <;> intro _ <;> try (exfalso; omega))
     | with_reducible first | refine z0g ?_ | refine z0f ?_ | refine z0c ?_ | refine z0e ?_ | refine z0b ?_ | refine z0h ?_ | refine qs ?_ | refine qb ?_ | refine z0j ?_ | refine qw ?_ | refine z0n ?_ | refine z0k ?_ | refine qi ?_ | refine qg (h := ?_) | refine qx (h := ?_) | refine qy (h := ?_) | refine qa ?_ | refine qc ?_ | refine ql ?_ | refine qp ?_ | refine z0a ?_ | rfl
     | (with_reducible first | refine ok_lt ?_ ?_ | refine ok_le ?_ ?_ | refine z0i ?_ ?_ | refine z0l ?_ ?_ | refine z0m ?_ ?_ | refine qu ?_ ?_ | refine ok_if ?_ ?_) <;> intro _ <;> try (exfalso; omega)
   · refine ⟨(true, _), by rw [z0r (by omega)]; rfl, ?_, add _ _ h2 (hj _ _ hpi hx)⟩
     simp only [if_true, List.length_append, List.length_singleton]; split at h1 <;> omega
   · rename_i e1
     subst e1
     simp only [if_true] at h1
     refine ⟨(true, _), by rw [z0r (by omega)]; rfl, ?_, add _ _ h2 hpi⟩
     simp only [if_true, List.length_append, List.length_singleton]; omega
   · rename_i e1 _
     subst e1
     simp only [Bool.false_eq_true, if_false] at h1
     refine ⟨(true, _), by rw [z0r (by omega)]; rfl, ?_, add _ _ (add _ _ h2 hx) hpi⟩
     simp only [if_true, List.length_append, List.length_singleton]; omega
   · rename_i e1 _
     subst e1
     simp only [Bool.false_eq_true, if_false] at h1
     refine ⟨(false, _), by rw [z0r (by omega)]; rfl, ?_, add _ _ h2 hpi⟩
     simp only [Bool.false_eq_true, if_false, List.length_append, List.length_singleton]; omega
theorem z1x5 {l : List T1} {K : List Int} (E : Evs l K) (out : List T2) (n : Int) (x : T2) (hx : ByOk K x.2.2.2.2) :
   Ok (loopC z0w (l, out, n, 0, x)) fun r => ∃ b, ByOk K b ∧ r = (l, out, n, (x.1, x.2.1, x.2.2.1, x.2.2.2.1, b)) := by
 have hl := E.len
 refine z1o l.length (fun k (b : List Int) => (l, out, n, (k : Int), (x.1, x.2.1, x.2.2.1, x.2.2.2.1, b))) (fun _ b => ByOk K b) x.2.2.2.2 rfl hx (fun b hb => ?_) fun k b hk hb => ?_
 · unfold z0w z2c
   dsimp only
   repeat' first
     | (dsimp only [Int.toNat_natCast, List.length_nil])
     | ((with_reducible refine z0z ?_ ?_) <;> intro _ <;> try (exfalso; omega))
     | with_reducible first | refine z0g ?_ | refine z0f ?_ | refine z0c ?_ | refine z0e ?_ | refine z0b ?_ | refine z0h ?_ | refine qs ?_ | refine qb ?_ | refine z0j ?_ | refine qw ?_ | refine z0n ?_ | refine z0k ?_ | refine qi ?_ | refine qg (h := ?_) | refine qx (h := ?_) | refine qy (h := ?_) | refine qa ?_ | refine qc ?_ | refine ql ?_ | refine qp ?_ | refine z0a ?_ | rfl
     | (with_reducible first | refine ok_lt ?_ ?_ | refine ok_le ?_ ?_ | refine z0i ?_ ?_ | refine z0l ?_ ?_ | refine z0m ?_ ?_ | refine qu ?_ ?_ | refine ok_if ?_ ?_) <;> intro _ <;> try (exfalso; omega)
   exact ⟨b, hb, rfl⟩
 · unfold z0w z2c
   dsimp only
   have go := (E.ev _ (List.getElem_mem hk)).gone
   have hw := ByOk.with E hb (List.getElem_mem hk)
   obtain ⟨e1, e2⟩ := in_is (z1be l[k]) x.1 (by omega)
   repeat' first
     | (dsimp only [Int.toNat_natCast, List.length_nil])
     | ((with_reducible refine ok_eq e2 ?_))
     | ((with_reducible refine ok_eq (zkv hb.v _) ?_))
     | ((with_reducible refine z0z ?_ ?_) <;> intro _ <;> try (exfalso; omega))
     | with_reducible first | refine z0g ?_ | refine z0f ?_ | refine z0c ?_ | refine z0e ?_ | refine z0b ?_ | refine z0h ?_ | refine qs ?_ | refine qb ?_ | refine z0j ?_ | refine qw ?_ | refine z0n ?_ | refine z0k ?_ | refine qi ?_ | refine qg (h := ?_) | refine qx (h := ?_) | refine qy (h := ?_) | refine qa ?_ | refine qc ?_ | refine ql ?_ | refine qp ?_ | refine z0a ?_ | rfl
     | (with_reducible first | refine ok_lt ?_ ?_ | refine ok_le ?_ ?_ | refine z0i ?_ ?_ | refine z0l ?_ ?_ | refine z0m ?_ ?_ | refine qu ?_ ?_ | refine ok_if ?_ ?_) <;> intro _ <;> try (exfalso; omega)
   all_goals first
     | exact ⟨withV b l[k].1, by rw [z0r (by omega)]; rfl, hw⟩
     | exact ⟨b, by rw [z0r (by omega)]; rfl, hb⟩
theorem z1j6 {l : List T1} {K : List Int} (E : Evs l K) : Ok (zes l) fun r => r.length ≤ l.length ∧ (∀ x, x ∈ r → EntOk l K x) := by
 have hl := E.len
 unfold zes
 refine z0a (z1o l.length (fun i (a : List T2) => (l, a, (i : Int))) (fun i a => a.length ≤ i ∧ ∀ x, x ∈ a → EntOk l K x) [] rfl ⟨Nat.zero_le _, fun x hx => by cases hx⟩ (fun a ha => ?_) fun i a hi ha => ?_)
 · unfold z2w z8s
   dsimp only
   repeat' first
     | (dsimp only [Int.toNat_natCast, List.length_nil])
     | ((with_reducible refine z0z ?_ ?_) <;> intro _ <;> try (exfalso; omega))
     | with_reducible first | refine z0g ?_ | refine z0f ?_ | refine z0c ?_ | refine z0e ?_ | refine z0b ?_ | refine z0h ?_ | refine qs ?_ | refine qb ?_ | refine z0j ?_ | refine qw ?_ | refine z0n ?_ | refine z0k ?_ | refine qi ?_ | refine qg (h := ?_) | refine qx (h := ?_) | refine qy (h := ?_) | refine qa ?_ | refine qc ?_ | refine ql ?_ | refine qp ?_ | refine z0a ?_ | rfl
     | (with_reducible first | refine ok_lt ?_ ?_ | refine ok_le ?_ ?_ | refine z0i ?_ ?_ | refine z0l ?_ ?_ | refine z0m ?_ ?_ | refine qu ?_ ?_ | refine ok_if ?_ ?_) <;> intro _ <;> try (exfalso; omega)
   exact ha
 · unfold z2w z8s
   dsimp only
   have hm := List.getElem_mem hi
   have pok : ∀ x, EntOk l K x → Ok (zgy a x) fun r => r.length ≤ i + 1 ∧ ∀ y, y ∈ r → EntOk l K y := fun x hx =>
     z9a (z1sx (fun y hy => hy.by'.v) (fun y z hy hz => ⟨hy.by'.join hz.by', hy.ev⟩) a x (by omega) ha.2 hx) fun r hr => ⟨by omega, hr.2⟩
   repeat' first
     | (dsimp only [Int.toNat_natCast, List.length_nil])
     | ((with_reducible refine z1c (z1x5 E _ _ _ (ByOk.zero E)) ?_); rintro _ ⟨b, hb, rfl⟩)
     | ((with_reducible refine z1c (pok _ ⟨hb, _, hm, ?_⟩) ?_))
     | ((with_reducible refine z0z ?_ ?_) <;> intro _ <;> try (exfalso; omega))
     | with_reducible first | refine z0g ?_ | refine z0f ?_ | refine z0c ?_ | refine z0e ?_ | refine z0b ?_ | refine z0h ?_ | refine qs ?_ | refine qb ?_ | refine z0j ?_ | refine qw ?_ | refine z0n ?_ | refine z0k ?_ | refine qi ?_ | refine qg (h := ?_) | refine qx (h := ?_) | refine qy (h := ?_) | refine qa ?_ | refine qc ?_ | refine ql ?_ | refine qp ?_ | refine z0a ?_ | rfl
     | (with_reducible first | refine ok_lt ?_ ?_ | refine ok_le ?_ ?_ | refine z0i ?_ ?_ | refine z0l ?_ ?_ | refine z0m ?_ ?_ | refine qu ?_ ?_ | refine ok_if ?_ ?_) <;> intro _ <;> try (exfalso; omega)
   all_goals first
     | exact ⟨a, by rw [z0r (by omega)]; rfl, by omega, ha.2⟩
     | (rintro r ⟨g1, g2⟩
        repeat' first
          | (dsimp only [Int.toNat_natCast, List.length_nil])
          | ((with_reducible refine z0z ?_ ?_) <;> intro _ <;> try (exfalso; omega))
          | with_reducible first | refine z0g ?_ | refine z0f ?_ | refine z0c ?_ | refine z0e ?_ | refine z0b ?_ | refine z0h ?_ | refine qs ?_ | refine qb ?_ | refine z0j ?_ | refine qw ?_ | refine z0n ?_ | refine z0k ?_ | refine qi ?_ | refine qg (h := ?_) | refine qx (h := ?_) | refine qy (h := ?_) | refine qa ?_ | refine qc ?_ | refine ql ?_ | refine qp ?_ | refine z0a ?_ | rfl
          | (with_reducible first | refine ok_lt ?_ ?_ | refine ok_le ?_ ?_ | refine z0i ?_ ?_ | refine z0l ?_ ?_ | refine z0m ?_ ?_ | refine qu ?_ ?_ | refine ok_if ?_ ?_) <;> intro _ <;> try (exfalso; omega)
        exact ⟨r, by rw [z0r (by omega)]; rfl, g1, g2⟩)
     | (rename_i h1 h2
        exact ⟨.inl h1, rfl, rfl, rfl, by rw [if_neg h2]⟩)
     | (rename_i h1 h2
        exact ⟨.inr (.inl h1), rfl, rfl, rfl, by rw [if_neg h2]⟩)
     | (rename_i h1 h2
        exact ⟨.inr (.inr h1), rfl, rfl, rfl, by rw [if_pos h2]⟩)
theorem z1wg {l : List T1} {K : List Int} (E : Evs l K) (out : List T2) (n : Int) (x : T2) (hx : ByOk K x.2.2.2.2) :
   Ok (loopC z1e (out, n, 0, l, x)) fun r => ∃ b, ByOk K b ∧ r = (out, n, l, (x.1, x.2.1, x.2.2.1, x.2.2.2.1, b)) := by
 have hl := E.len
 refine z1o l.length (fun k (b : List Int) => (out, n, (k : Int), l, (x.1, x.2.1, x.2.2.1, x.2.2.2.1, b))) (fun _ b => ByOk K b) x.2.2.2.2 rfl hx (fun b hb => ?_) fun k b hk hb => ?_
 · unfold z1e z4s
   dsimp only
   repeat' first
     | (dsimp only [Int.toNat_natCast, List.length_nil])
     | ((with_reducible refine z0z ?_ ?_) <;> intro _ <;> try (exfalso; omega))
     | with_reducible first | refine z0g ?_ | refine z0f ?_ | refine z0c ?_ | refine z0e ?_ | refine z0b ?_ | refine z0h ?_ | refine qs ?_ | refine qb ?_ | refine z0j ?_ | refine qw ?_ | refine z0n ?_ | refine z0k ?_ | refine qi ?_ | refine qg (h := ?_) | refine qx (h := ?_) | refine qy (h := ?_) | refine qa ?_ | refine qc ?_ | refine ql ?_ | refine qp ?_ | refine z0a ?_ | rfl
     | (with_reducible first | refine ok_lt ?_ ?_ | refine ok_le ?_ ?_ | refine z0i ?_ ?_ | refine z0l ?_ ?_ | refine z0m ?_ ?_ | refine qu ?_ ?_ | refine ok_if ?_ ?_) <;> intro _ <;> try (exfalso; omega)
   exact ⟨b, hb, rfl⟩
 · unfold z1e z4s
   dsimp only
   have go := (E.ev _ (List.getElem_mem hk)).gone
   have hw := ByOk.with E hb (List.getElem_mem hk)
   obtain ⟨e1, e2⟩ := in_is (z1be l[k]) x.1 (by omega)
   repeat' first
     | (dsimp only [Int.toNat_natCast, List.length_nil])
     | ((with_reducible refine ok_eq e2 ?_))
     | ((with_reducible refine ok_eq (zkv hb.v _) ?_))
     | ((with_reducible refine z0z ?_ ?_) <;> intro _ <;> try (exfalso; omega))
     | with_reducible first | refine z0g ?_ | refine z0f ?_ | refine z0c ?_ | refine z0e ?_ | refine z0b ?_ | refine z0h ?_ | refine qs ?_ | refine qb ?_ | refine z0j ?_ | refine qw ?_ | refine z0n ?_ | refine z0k ?_ | refine qi ?_ | refine qg (h := ?_) | refine qx (h := ?_) | refine qy (h := ?_) | refine qa ?_ | refine qc ?_ | refine ql ?_ | refine qp ?_ | refine z0a ?_ | rfl
     | (with_reducible first | refine ok_lt ?_ ?_ | refine ok_le ?_ ?_ | refine z0i ?_ ?_ | refine z0l ?_ ?_ | refine z0m ?_ ?_ | refine qu ?_ ?_ | refine ok_if ?_ ?_) <;> intro _ <;> try (exfalso; omega)
   all_goals first
     | exact ⟨withV b l[k].1, by rw [z0r (by omega)]; rfl, hw⟩
     | exact ⟨b, by rw [z0r (by omega)]; rfl, hb⟩
theorem z1pu {l : List T1} {K : List Int} (E : Evs l K) : Ok (zla l) fun r => r.1.length ≤ l.length ∧ (∀ x, x ∈ r.1 → EntOk l K x) ∧ r.2 = l := by
 have hl := E.len
 unfold zla
 refine zbv rfl ?_
 refine z0a (z1o l.length (fun i (a : List T2) => (a, (i : Int), l)) (fun i a => a.length ≤ i ∧ ∀ x, x ∈ a → EntOk l K x) [] rfl ⟨Nat.zero_le _, fun x hx => by cases hx⟩ (fun a ha => ?_) fun i a hi ha => ?_)
 · unfold z3q ze4
   dsimp only
   repeat' first
     | (dsimp only [Int.toNat_natCast, List.length_nil])
     | ((with_reducible refine z0z ?_ ?_) <;> intro _ <;> try (exfalso; omega))
     | with_reducible first | refine z0g ?_ | refine z0f ?_ | refine z0c ?_ | refine z0e ?_ | refine z0b ?_ | refine z0h ?_ | refine qs ?_ | refine qb ?_ | refine z0j ?_ | refine qw ?_ | refine z0n ?_ | refine z0k ?_ | refine qi ?_ | refine qg (h := ?_) | refine qx (h := ?_) | refine qy (h := ?_) | refine qa ?_ | refine qc ?_ | refine ql ?_ | refine qp ?_ | refine z0a ?_ | rfl
     | (with_reducible first | refine ok_lt ?_ ?_ | refine ok_le ?_ ?_ | refine z0i ?_ ?_ | refine z0l ?_ ?_ | refine z0m ?_ ?_ | refine qu ?_ ?_ | refine ok_if ?_ ?_) <;> intro _ <;> try (exfalso; omega)
   exact ⟨ha.1, ha.2, rfl⟩
 · unfold z3q ze4
   dsimp only
   have hm := List.getElem_mem hi
   have pok : ∀ x, EntOk l K x → Ok (zgy a x) fun r => r.length ≤ i + 1 ∧ ∀ y, y ∈ r → EntOk l K y := fun x hx =>
     z9a (z1sx (fun y hy => hy.by'.v) (fun y z hy hz => ⟨hy.by'.join hz.by', hy.ev⟩) a x (by omega) ha.2 hx) fun r hr => ⟨by omega, hr.2⟩
   repeat' first
     | (dsimp only [Int.toNat_natCast, List.length_nil])
     | ((with_reducible refine z1c (z1wg E _ _ _ (ByOk.zero E)) ?_); rintro _ ⟨b, hb, rfl⟩)
     | ((with_reducible refine z1c (pok _ ⟨hb, _, hm, ?_⟩) ?_))
     | ((with_reducible refine z0z ?_ ?_) <;> intro _ <;> try (exfalso; omega))
     | with_reducible first | refine z0g ?_ | refine z0f ?_ | refine z0c ?_ | refine z0e ?_ | refine z0b ?_ | refine z0h ?_ | refine qs ?_ | refine qb ?_ | refine z0j ?_ | refine qw ?_ | refine z0n ?_ | refine z0k ?_ | refine qi ?_ | refine qg (h := ?_) | refine qx (h := ?_) | refine qy (h := ?_) | refine qa ?_ | refine qc ?_ | refine ql ?_ | refine qp ?_ | refine z0a ?_ | rfl
     | (with_reducible first | refine ok_lt ?_ ?_ | refine ok_le ?_ ?_ | refine z0i ?_ ?_ | refine z0l ?_ ?_ | refine z0m ?_ ?_ | refine qu ?_ ?_ | refine ok_if ?_ ?_) <;> intro _ <;> try (exfalso; omega)
   all_goals first
     | exact ⟨a, by rw [z0r (by omega)]; rfl, by omega, ha.2⟩
     | (rintro r ⟨g1, g2⟩
        repeat' first
          | (dsimp only [Int.toNat_natCast, List.length_nil])
          | ((with_reducible refine z0z ?_ ?_) <;> intro _ <;> try (exfalso; omega))
          | with_reducible first | refine z0g ?_ | refine z0f ?_ | refine z0c ?_ | refine z0e ?_ | refine z0b ?_ | refine z0h ?_ | refine qs ?_ | refine qb ?_ | refine z0j ?_ | refine qw ?_ | refine z0n ?_ | refine z0k ?_ | refine qi ?_ | refine qg (h := ?_) | refine qx (h := ?_) | refine qy (h := ?_) | refine qa ?_ | refine qc ?_ | refine ql ?_ | refine qp ?_ | refine z0a ?_ | rfl
          | (with_reducible first | refine ok_lt ?_ ?_ | refine ok_le ?_ ?_ | refine z0i ?_ ?_ | refine z0l ?_ ?_ | refine z0m ?_ ?_ | refine qu ?_ ?_ | refine ok_if ?_ ?_) <;> intro _ <;> try (exfalso; omega)
        exact ⟨r, by rw [z0r (by omega)]; rfl, g1, g2⟩)
     | (rename_i h1 h2
        exact ⟨.inl h1, rfl, rfl, rfl, by rw [if_neg h2]⟩)
     | (rename_i h1 h2
        exact ⟨.inr (.inl h1), rfl, rfl, rfl, by rw [if_neg h2]⟩)
     | (rename_i h1 h2
        exact ⟨.inr (.inr h1), rfl, rfl, rfl, by rw [if_pos h2]⟩)
end Go.Proofs.Ytfbdjicfkcklfaa