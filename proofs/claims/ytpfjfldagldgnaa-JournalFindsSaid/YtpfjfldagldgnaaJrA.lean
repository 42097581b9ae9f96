import Derived.Test.YtpfjfldagldgnaaTm21to25
import Derived.Test.YtpfjfldagldgnaaTm26to30
import Derived.Test.YtpfjfldagldgnaaTm31to34
import Derived.Test.YtpfjfldagldgnaaJrItoJrE
import Derived.Test.YtpfjfldagldgnaaProg
set_option maxRecDepth 100000
set_option linter.unusedVariables false
noncomputable section
namespace Go.Proofs.Ytpfjfldagldgnaa
open Go.Tm Go.Ab
abbrev T0 := Int × (List Int)
abbrev T1 := (List Int) × Int × Int
abbrev T2 := Int × Int × Int
abbrev T3 := (List (List Int)) × (List T0) × Int × T1 × Int × Bool
abbrev T4 := Int × (List (List Int)) × Int × T1
def r0 : Rt := .one (.st (.cons .leaf (.cons .leaf (.cons .leaf (.cons (.st (.cons .leaf (.cons .leaf (.one .leaf)))) (.cons .leaf (.one .leaf)))))))
def c1 : U := (.arr 256 (.int .u8))
def c2 : U := (.sl (.st (.cons (.int .i64) (.one (.arr 256 (.int .u8))))))
def c3 : U := (.st (.cons (.sl (.int .i64)) (.cons (.int .i64) (.one (.int .i64)))))
def c4 : U := (.st (.cons (.int .u64) (.cons (.int .i64) (.one (.int .i64)))))
def c5 : U := (.sl (.sl (.int .u8)))
def r6 : Rt := .one (.st (.cons .leaf (.cons (.st (.cons .leaf (.cons .leaf (.one .leaf)))) (.cons .leaf (.cons .leaf (.one .leaf))))))
def r7 : Rt := .one (.st (.cons .leaf (.cons .leaf (.one .leaf))))
def c8 : U := (.st (.cons (.sl (.arr 256 (.int .u8))) (.cons (.sl (.st (.cons (.int .i64) (.one (.arr 256 (.int .u8)))))) (.cons (.int .i64) (.cons (.st (.cons (.sl (.int .i64)) (.cons (.int .i64) (.one (.int .i64))))) (.cons (.int .i64) (.one .bool)))))))
def c9 : U := (.st (.cons (.int .i64) (.one (.arr 256 (.int .u8)))))
def r10 : Rt := .one (.st (.cons .leaf (.one (.arr 256 .leaf))))
def c11 : U := (.sl (.st (.cons (.int .i64) (.cons (.sl (.sl (.int .u8))) (.cons (.int .i64) (.one (.st (.cons (.sl (.int .i64)) (.cons (.int .i64) (.one (.int .i64)))))))))))
def r12 : Rt := .one (.st (.cons .leaf (.cons .leaf (.cons .leaf (.one (.st (.cons .leaf (.cons .leaf (.one .leaf)))))))))
def c13 : U := (.st (.cons (.int .i64) (.cons (.sl (.sl (.int .u8))) (.cons (.int .i64) (.one (.st (.cons (.sl (.int .i64)) (.cons (.int .i64) (.one (.int .i64))))))))))
def c16 : U := (.st (.cons (.sl .str) (.cons (.sl (.st (.cons (.int .i64) (.one .str)))) (.cons (.int .i64) (.cons (.st (.cons (.sl (.int .i64)) (.cons (.int .i64) (.one (.int .i64))))) (.cons (.int .i64) (.one .bool)))))))
def z1ds : Env := ⟨[], [], []⟩
theorem z1b8 : EnvsOK Try.prog z1ds := ⟨z0l _, z0h _, z0g _⟩
def zxv : Shp := ⟨1, 0, [(0, .tu [.c .nilp, .d (.int .i64)])], []⟩
def zy8 : Shp := ⟨1, 0, [(0, .tu [.pt 0 r0 [], .d (.int .i64)])], [.var 71 (.ag [.wn 1 c1, .d c2, .d (.int .i64), .d c3, .d (.int .i64), .d .bool]), .row 86 c1]⟩
def z10z : XS := .or .ret zxv.xe (.one .ret zy8.xe)
theorem z19i : z10z.OK := XS.or_ok (z0a zxv) (XS.one_ok (z0a zy8))
def zg7 (sectors : Int) : Option ((Int) ⊕ (Int × (List T0) × Int × T1 × Int × Bool × (List (List Int)))) :=
 bif ltI sectors 1 then
 some (.inl 1)
 else
 bif ltI 4096 sectors then
 some (.inl 1)
 else
 makeG sectors 256 (
 bif Nat.beq sectors.toNat (List.length (List.replicate sectors.toNat (List.replicate 256 (0 : Int)))) then
 some (.inr (0, [], (-1), ([], 0, 0), 0, false, List.replicate sectors.toNat (List.replicate 256 (0 : Int))))
 else none)
def zrn : Sig := ⟨9, [.d (.int .i64)], [], 0, z10z⟩
def zq9 (x : Int) : Option ((Int) ⊕ (Int × (List T0) × Int × T1 × Int × Bool × (List (List Int)))) := zg7 x
theorem zze : FnOK Try.prog zrn zq9 :=
 fn_ok z1b8 (h := .no) Try.func9 (z0e [] (by kernel_rfl) trivial) (by kernel_rfl) z19i (fun x => by kernel_rfl)
def z12y : Env := ⟨[], [], []⟩
theorem zzt : EnvsOK Try.prog z12y := ⟨z0l _, z0h _, z0g _⟩
def znq : Shp := ⟨1, 0, [(0, .d (.int .i64))], []⟩
def zpz : XS := .one .ret znq.xe
theorem zyd : zpz.OK := XS.one_ok (z0a znq)
def zjy  : Option ((Int)) :=
 some 0
def zhg : Sig := ⟨30, [.c .nilp], [], 0, zpz⟩
def zg4 (x : Unit) : Option ((Int)) := zjy 
theorem zoy : FnOK Try.prog zhg zg4 :=
 fn_ok zzt (h := .no) Try.func30 (z0e [] (by kernel_rfl) trivial) (by kernel_rfl) zyd (fun x => by kernel_rfl)
def z19b : Env := ⟨[(entQ zhg zg4)], [], []⟩
theorem z15j : EnvsOK Try.prog z19b := ⟨z0d (z0j zoy) (z0l _), z0h _, z0g _⟩
def zr1 : Shp := ⟨1, 0, [(0, .d (.int .i64))], []⟩
def zv1 : XS := .one .ret zr1.xe
theorem z12w : zv1.OK := XS.one_ok (z0a zr1)
def zaw  : Option ((Int)) :=
 (zjy).bind fun r =>
 some (W64 (Int.tdiv (W64 (r - 2)) 2))
def z8v : Sig := ⟨31, [.c .nilp], [], 0, zv1⟩
def z8c (x : Unit) : Option ((Int)) := zaw 
theorem zag : FnOK Try.prog z8v z8c :=
 fn_ok z15j (h := .no) Try.func31 (z0e [] (by kernel_rfl) trivial) (by kernel_rfl) z12w (fun x => by kernel_rfl)
def z15i : Env := ⟨[], [], []⟩
theorem z10u : EnvsOK Try.prog z15i := ⟨z0l _, z0h _, z0g _⟩
def zpe : Shp := ⟨1, 0, [(0, .d .bool)], []⟩
def zr7 : XS := .one .ret zpe.xe
theorem z10l : zr7.OK := XS.one_ok (z0a zpe)
def zmx  : Option ((Bool)) :=
 some true
def zil : Sig := ⟨39, [.c .nilp], [], 0, zr7⟩
def zhv (x : Unit) : Option ((Bool)) := zmx 
theorem zpv : FnOK Try.prog zil zhv :=
 fn_ok z10u (h := .no) Try.func39 (z0e [] (by kernel_rfl) trivial) (by kernel_rfl) z10l (fun x => by kernel_rfl)
def z15k : Env := ⟨[(entQ zil zhv)], [], []⟩
theorem z11q : EnvsOK Try.prog z15k := ⟨z0d (z0j zpv) (z0l _), z0h _, z0g _⟩
def zot : Shp := ⟨1, 0, [(0, .d (.int .i64))], []⟩
def zr4 : XS := .one .ret zot.xe
theorem z10e : zr4.OK := XS.one_ok (z0a zot)
def zn3 (i : Int) : Option ((Int)) :=
 (zmx).bind fun r =>
 bif r then
 some 6
 else
 bif ltI i 0 then
 some 2
 else
 none
def zio : Sig := ⟨51, [.c .nilp, .d (.int .i64)], [], 0, zr4⟩
def zht (x : Int) : Option ((Int)) := zn3 x
theorem zqh : FnOK Try.prog zio zht :=
 fn_ok z11q (h := .no) Try.func51 (z0e [] (by kernel_rfl) trivial) (by kernel_rfl) z10e (fun x => by kernel_rfl)
def z13e : Env := ⟨[(entQ zio zht)], [], []⟩
theorem z10k : EnvsOK Try.prog z13e := ⟨z0d (z0j zqh) (z0l _), z0h _, z0g _⟩
def zo3 : Shp := ⟨1, 0, [(0, .tu [.d (.sl (.int .u8)), .d (.int .i64)])], []⟩
def zq5 : XS := .one .ret zo3.xe
theorem zyr : zq5.OK := XS.one_ok (z0a zo3)
def zli (i : Int) : Option (((List Int) × Int)) :=
 (zn3 i).bind fun r =>
 bif neI r 0 then
 some ([], r)
 else
 none
def zqm : Sig := ⟨28, [.c .nilp, .d (.int .i64)], [], 0, zq5⟩
def zos (x : Int) : Option (((List Int) × Int)) := zli x
theorem z11g : FnOK Try.prog zqm zos :=
 fn_ok z10k (h := .no) Try.func28 (z0e [] (by kernel_rfl) trivial) (by kernel_rfl) zyr (fun x => by kernel_rfl)
def z1at : Env := ⟨[], [], []⟩
theorem zss : EnvsOK Try.prog z1at := ⟨z0l _, z0h _, z0g _⟩
def zgt : Shp := ⟨19, 0, [(3, .d (.int .u64))], []⟩
def z6t : XS := .one (.exit 0) zgt.xe
theorem zqq : z6t.OK := XS.one_ok (z0a zgt)
def z6m : Shp := ⟨19, 0, [(3, .d (.int .u64)), (6, .d (.sl (.int .u8))), (7, .d (.int .i64)), (8, .d (.int .i64))], []⟩
abbrev zct := Int × (List Int) × Int × Int
abbrev zie := (Int)
def z6s (n : Int) (t6 : List Int) (t7 : Int) (t8 : Int) : Option (zct ⊕ zie) :=
 bif ltI t8 t7 then
 (idxI t6 t8).bind fun x =>
 some (.inl (bitI .or .u64 (shI .shl .u64 n 8) (WU64 (x)), t6, t7, W64 (t8 + 1)))
 else
 some (.inr n)
def z4o (s : zct) : Option (zct ⊕ zie) := z6s s.1 s.2.1 s.2.2.1 s.2.2.2
theorem zs2 : SoundD Try.prog (.loop (subC (bodyC Try.f52) [1, 1, 0, 1, 0, 0])) (loopD z6m.xe z6t (loopC z4o)) :=
 z1f (S := z6m.xe) (X := z6t) zss (h := .no) (z0e [] (by kernel_rfl) trivial) (z0a z6m) zqq z4o (fun s => by kernel_rfl)
def ztl : Shp := ⟨1, 0, [(0, .d (.int .u64))], []⟩
def zx0 : XS := .one .ret ztl.xe
theorem z15u : zx0.OK := XS.one_ok (z0a ztl)
def zbe (b : List Int) : Option ((Int)) :=
 z0f (List.length b) (
 (loopC z4o (0, b, (List.length b : Nat), 0)).bind fun o =>
 some o)
def zx5 : Sig := ⟨52, [.d (.sl (.int .u8))], [], 0, zx0⟩
def zut (x : (List Int)) : Option ((Int)) := zbe x
theorem z19a : FnOK Try.prog zx5 zut :=
 fn_ok zss (h := (.two .no (.two .no (.two (.two .no (.over (loopD z6m.xe z6t (loopC z4o)))) .no)))) Try.func52 (z0e [.den (.loop (subC (bodyC Try.f52) [1, 1, 0, 1, 0, 0])) (loopD z6m.xe z6t (loopC z4o))] (by kernel_rfl) ⟨zs2, trivial⟩) (by kernel_rfl) z15u (fun x => by kernel_rfl)
def z1d1 : Env := ⟨[(entQ zx5 zut)], [], []⟩
theorem z19k : EnvsOK Try.prog z1d1 := ⟨z0d (z0j z19a) (z0l _), z0h _, z0g _⟩
def zum : Shp := ⟨1, 0, [(0, .d c4)], []⟩
def zz3 : XS := .one .ret zum.xe
theorem z17c : zz3.OK := XS.one_ok (z0a zum)
def zi7 (b : List Int) (room : Int) : Option ((T2)) :=
 bif subOk 8 16 (List.length b) then
 (zbe (subL b 8 16)).bind fun r =>
 bif subOk 16 24 (List.length b) then
 (zbe (subL b 16 24)).bind fun r2 =>
 bif subOk 24 32 (List.length b) then
 (zbe (subL b 24 32)).bind fun r3 =>
 bif subOk 0 8 (List.length b) then
 bif !(eqS (subL b 0 8) ([119, 97, 114, 100, 115, 104, 105, 112] : List Int)) then
 some (0, 0, 0)
 else
 bif subOk 32 40 (List.length b) then
 bif !(eqS (subL b 32 40) ([119, 97, 114, 100, 115, 104, 105, 112] : List Int)) then
 some (0, 0, 0)
 else
 bif subOk 16 32 (List.length b) then
 bif subOk 40 56 (List.length b) then
 bif !(eqS (subL b 16 32) (subL b 40 56)) then
 some (0, 0, 0)
 else
 bif subOk 56 64 (List.length b) then
 (zbe (subL b 56 64)).bind fun r4 =>
 bif neI r4 r then
 some (0, 0, 0)
 else
 bif ltI r 1 then
 some (0, 0, 0)
 else
 bif ltI 4611686018427387904 r then
 some (0, 0, 0)
 else
 bif ltI 1 r2 then
 some (0, 0, 0)
 else
 bif ltI (WU64 (room)) r3 then
 some (0, 0, 0)
 else
 some (r, W64 (r2), W64 (r3))
 else none
 else none
 else none
 else none
 else none
 else none
 else none
 else none
def zpl : Sig := ⟨32, [.d (.sl (.int .u8)), .d (.int .i64)], [], 0, zz3⟩
def zom (x : (List Int) × Int) : Option ((T2)) := zi7 x.1 x.2
theorem zxa : FnOK Try.prog zpl zom :=
 fn_ok z19k (h := .no) Try.func32 (z0e [] (by kernel_rfl) trivial) (by kernel_rfl) z17c (fun x => by kernel_rfl)
def z1gb : Env := ⟨[], [], []⟩
theorem zzi : EnvsOK Try.prog z1gb := ⟨z0l _, z0h _, z0g _⟩
def zd4 : Shp := ⟨27, 0, [(0, .d (.int .u64)), (3, .wn 0 (.int .u8)), (4, .d (.int .i64)), (5, .d (.int .u8)), (21, .d .bool)], [.row 5 (.int .u8)]⟩
def za1 : XS := .one .normal zd4.xe
theorem zly : za1.OK := XS.one_ok (z0a zd4)
def zj7 : Shp := ⟨27, 0, [(3, .wn 0 (.int .u8))], [.row 5 (.int .u8)]⟩
def z8q : XS := .one (.exit 0) zj7.xe
theorem zu6 : z8q.OK := XS.one_ok (z0a zj7)
def z8p : Shp := ⟨27, 0, [(0, .d (.int .u64)), (3, .wn 0 (.int .u8)), (4, .d (.int .i64))], [.row 5 (.int .u8)]⟩
abbrev zeg := Int × Int × (List Int)
abbrev zmu := ((List Int))
def z8s (n : Int) (shift : Int) (b : List Int) : Option (zeg ⊕ zmu) :=
 bif leI 0 shift then
 bif ltI shift 0 then none else
 (show Option ((Int × Int × Int × Bool × (List Int))) from
 bif neI (WU8 (shI .shr .u64 n shift)) 0 then
 bif Nat.beq (List.length b) (List.length b) then
 some (n, shift, WU8 (shI .shr .u64 n shift), true, b)
 else none
 else
 z0f (List.length b) (
 bif Nat.beq (List.length b) (List.length b) then
 some (n, shift, WU8 (shI .shr .u64 n shift), ltI 0 (List.length b : Nat), b)
 else none)).bind fun j =>
 bif j.2.2.2.1 then
 bif Nat.beq (List.length j.2.2.2.2) (List.length j.2.2.2.2) then
 appG (List.length j.2.2.2.2) (List.length ([j.2.2.1] : List Int)) 1 fun _ =>
 bif Nat.beq (List.length (j.2.2.2.2 ++ ([j.2.2.1] : List Int))) (List.length (j.2.2.2.2 ++ ([j.2.2.1] : List Int))) then
 some (.inl (j.1, W64 (j.2.1 - 8), j.2.2.2.2 ++ ([j.2.2.1] : List Int)))
 else none
 else none
 else
 bif Nat.beq (List.length j.2.2.2.2) (List.length j.2.2.2.2) then
 some (.inl (j.1, W64 (j.2.1 - 8), j.2.2.2.2))
 else none
 else
 bif Nat.beq (List.length b) (List.length b) then
 some (.inr b)
 else none
def z5q (s : zeg) : Option (zeg ⊕ zmu) := z8s s.1 s.2.1 s.2.2
theorem zvm : SoundD Try.prog (.loop (subC (bodyC Try.f82) [1, 1, 0, 1, 0, 0])) (loopD z8p.xe z8q (loopC z5q)) :=
 z1f (S := z8p.xe) (X := z8q) zzi (h := (.two .no (.two (.two .no (.join (fun _ => za1) .no .no)) .no))) (z0e [.xs (fun _ => za1)] (by kernel_rfl) ⟨(z1p zly), trivial⟩) (z0a z8p) zu6 z5q (fun s => by kernel_rfl)
def zzn : Shp := ⟨1, 0, [(0, .wn 0 (.int .u8))], [.row 5 (.int .u8)]⟩
def z14y : XS := .one .ret zzn.xe
theorem z1bf : z14y.OK := XS.one_ok (z0a zzn)
def zsd (n : Int) : Option (((List Int))) :=
 bif Nat.beq (List.length ([] : List Int)) (List.length ([] : List Int)) then
 (loopC z5q (n, 56, ([] : List Int))).bind fun o =>
 bif Nat.beq (List.length o) (List.length o) then
 some o
 else none
 else none
def z15g : Sig := ⟨82, [.d (.int .u64)], [], 0, z14y⟩
def z12r (x : Int) : Option (((List Int))) := zsd x
theorem z1e1 : FnOK Try.prog z15g z12r :=
 fn_ok zzi (h := (.two .no (.two (.reg [0] []) (.two (.two .no (.over (loopD z8p.xe z8q (loopC z5q)))) .no)))) Try.func82 (z0e [.den (.loop (subC (bodyC Try.f82) [1, 1, 0, 1, 0, 0])) (loopD z8p.xe z8q (loopC z5q))] (by kernel_rfl) ⟨zvm, trivial⟩) (by kernel_rfl) z1bf (fun x => by kernel_rfl)
def z19g : Env := ⟨[], [(entP z15g z12r)], []⟩
theorem z15o : EnvsOK Try.prog z19g := ⟨z0l _, z0o (z1a z1e1) (z0h _), z0g _⟩
def zqz : Shp := ⟨1, 0, [(0, .wn 0 (.int .u8))], [.row 5 (.int .u8)]⟩
def zul : XS := .one .ret zqz.xe
theorem z13j : zul.OK := XS.one_ok (z0a zqz)
def zcc (n : Int) : Option (((List Int))) :=
 (zsd n).bind fun r =>
 z0f (List.length r) (
 makeG (W64 (8 - (List.length r : Nat))) 1 (
 bif Nat.beq ((W64 (8 - (List.length r : Nat))).toNat) (List.length (List.replicate ((W64 (8 - (List.length r : Nat))).toNat) (0 : Int))) then
 winK r 0 (List.length r) fun w =>
 appG (List.length (List.replicate ((W64 (8 - (List.length r : Nat))).toNat) (0 : Int))) (List.length w) 1 fun _ =>
 bif Nat.beq (List.length ((List.replicate ((W64 (8 - (List.length r : Nat))).toNat) (0 : Int)) ++ w)) (List.length ((List.replicate ((W64 (8 - (List.length r : Nat))).toNat) (0 : Int)) ++ w)) then
 some ((List.replicate ((W64 (8 - (List.length r : Nat))).toNat) (0 : Int)) ++ w)
 else none
 else none))
def zmy : Sig := ⟨73, [.d (.int .u64)], [], 0, zul⟩
def zlo (x : Int) : Option (((List Int))) := zcc x
theorem zth : FnOK Try.prog zmy zlo :=
 fn_ok z15o (h := .no) Try.func73 (z0e [] (by kernel_rfl) trivial) (by kernel_rfl) z13j (fun x => by kernel_rfl)
def z1cq : Env := ⟨[], [(entP z13o zzw)], []⟩
theorem zn2 : EnvsOK Try.prog z1cq := ⟨z0l _, z0o (z1a z19n) (z0h _), z0g _⟩
def zhb : Shp := ⟨36, 0, [(0, .d c5), (3, .d (.int .i64))], []⟩
def z7t : XS := .one (.exit 0) zhb.xe
theorem zrh : z7t.OK := XS.one_ok (z0a zhb)
def z7s : Shp := ⟨36, 0, [(0, .d c5), (3, .d (.int .i64)), (9, .d c5), (10, .d (.int .i64)), (11, .d (.int .i64))], []⟩
abbrev zd6 := (List (List Int)) × Int × (List (List Int)) × Int × Int
abbrev zje := ((List (List Int)) × Int)
def z7n (slices : List (List Int)) (size : Int) (t9 : List (List Int)) (t10 : Int) (t11 : Int) : Option (zd6 ⊕ zje) :=
 bif ltI t11 t10 then
 (idxI t9 t11).bind fun x =>
 z0f (List.length x) (
 bif ltI (W64 (size + (List.length x : Nat))) 0 then
 none
 else
 some (.inl (slices, W64 (size + (List.length x : Nat)), t9, t10, W64 (t11 + 1))))
 else
 some (.inr (slices, size))
def z3m (s : zd6) : Option (zd6 ⊕ zje) := z7n s.1 s.2.1 s.2.2.1 s.2.2.2.1 s.2.2.2.2
theorem zt1 : SoundD Try.prog (.loop (subC (bodyC Try.f38) [1, 1, 0, 1, 0, 0])) (loopD z7s.xe z7t (loopC z3m)) :=
 z1f (S := z7s.xe) (X := z7t) zn2 (h := .no) (z0e [] (by kernel_rfl) trivial) (z0a z7s) zrh z3m (fun s => by kernel_rfl)
def ze5 : Shp := ⟨36, 0, [(6, .wn 0 (.int .u8))], [.row 5 (.int .u8)]⟩
def z5d : XS := .one (.exit 2) ze5.xe
theorem zol : z5d.OK := XS.one_ok (z0a ze5)
def z5c : Shp := ⟨36, 0, [(6, .wn 0 (.int .u8)), (25, .d c5), (26, .d (.int .i64)), (27, .d (.int .i64))], [.row 5 (.int .u8)]⟩
abbrev zb7 := (List (List Int)) × Int × Int × (List Int)
abbrev zfx := ((List Int))
def z5b (t25 : List (List Int)) (t26 : Int) (t27 : Int) (newslice : List Int) : Option (zb7 ⊕ zfx) :=
 bif ltI t27 t26 then
 (idxI t25 t27).bind fun x =>
 bif Nat.beq (List.length newslice) (List.length newslice) then
 appG (List.length newslice) (List.length x) 1 fun _ =>
 bif Nat.beq (List.length (newslice ++ x)) (List.length (newslice ++ x)) then
 some (.inl (t25, t26, W64 (t27 + 1), newslice ++ x))
 else none
 else none
 else
 bif Nat.beq (List.length newslice) (List.length newslice) then
 some (.inr newslice)
 else none
def z2e (s : zb7) : Option (zb7 ⊕ zfx) := z5b s.1 s.2.1 s.2.2.1 s.2.2.2
theorem zpj : SoundD Try.prog (.loop (subC (bodyC Try.f38) [1, 1, 1, 1, 0, 1, 0, 0])) (loopD z5c.xe z5d (loopC z2e)) :=
 z1f (S := z5c.xe) (X := z5d) zn2 (h := .no) (z0e [] (by kernel_rfl) trivial) (z0a z5c) zol z2e (fun s => by kernel_rfl)
def zup : Shp := ⟨1, 0, [(0, .wn 0 (.int .u8))], [.row 5 (.int .u8)]⟩
def zz7 : XS := .one .ret zup.xe
theorem z16g : zz7.OK := XS.one_ok (z0a zup)
def zi1 (slices : List (List Int)) : Option (((List Int))) :=
 z0f (List.length slices) (
 (loopC z3m (slices, 0, slices, (List.length slices : Nat), 0)).bind fun o =>
 (z13s o.2).bind fun r =>
 z0f (List.length o.1) (
 bif Nat.beq (List.length r) (List.length r) then
 (loopC z2e (o.1, (List.length o.1 : Nat), 0, r)).bind fun o2 =>
 bif Nat.beq (List.length o2) (List.length o2) then
 some o2
 else none
 else none))
def zz8 : Sig := ⟨38, [.d c5], [], 0, zz7⟩
def zxs (x : (List (List Int))) : Option (((List Int))) := zi1 x
theorem z1b2 : FnOK Try.prog zz8 zxs :=
 fn_ok zn2 (h := (.two .no (.two .no (.two (.two .no (.over (loopD z7s.xe z7t (loopC z3m)))) (.two .no (.two (.two .no (.over (loopD z5c.xe z5d (loopC z2e)))) .no)))))) Try.func38 (z0e [.den (.loop (subC (bodyC Try.f38) [1, 1, 0, 1, 0, 0])) (loopD z7s.xe z7t (loopC z3m)), .den (.loop (subC (bodyC Try.f38) [1, 1, 1, 1, 0, 1, 0, 0])) (loopD z5c.xe z5d (loopC z2e))] (by kernel_rfl) ⟨zt1, zpj, trivial⟩) (by kernel_rfl) z16g (fun x => by kernel_rfl)
def zqd : Env := ⟨[], [(entP zmy zlo), (entP zz8 zxs)], [(entD zmy zlo)]⟩
theorem zog : EnvsOK Try.prog zqd := ⟨z0l _, z0o (z1a zth) (z0o (z1a z1b2) (z0h _)), z1mq (z1qx zth) (z0g _)⟩
def zdk : Shp := ⟨1, 0, [(0, .d (.sl (.int .u8)))], []⟩
def zf1 : XS := .one .ret zdk.xe
theorem znx : zf1.OK := XS.one_ok (z0a zdk)
def z2j (t : T2) : Option (((List Int))) :=
 (zcc t.1).bind fun r =>
 (zcc (WU64 (t.2.1))).bind fun r2 =>
 (zcc (WU64 (t.2.2))).bind fun r3 =>
 bif Nat.beq (List.length r2) (List.length r2) then
 winK r3 0 (List.length r3) fun w =>
 appG (List.length r2) (List.length w) 1 fun _ =>
 winK ([119, 97, 114, 100, 115, 104, 105, 112] : List Int) 0 (List.length ([119, 97, 114, 100, 115, 104, 105, 112] : List Int)) fun w2 =>
 winK r 0 (List.length r) fun w3 =>
 winK (r2 ++ w) 0 (List.length (r2 ++ w)) fun w4 =>
 winK ([119, 97, 114, 100, 115, 104, 105, 112] : List Int) 0 (List.length ([119, 97, 114, 100, 115, 104, 105, 112] : List Int)) fun w5 =>
 winK (r2 ++ w) 0 (List.length (r2 ++ w)) fun w6 =>
 winK r 0 (List.length r) fun w7 =>
 (zi1 ([w2, w3, w4, w5, w6, w7] : List (List Int))).bind fun r4 =>
 bif Nat.beq (List.length r4) (List.length r4) then
 appG (List.length r4) 192 1 fun _ =>
 winK (r4 ++ (List.replicate 192 (0 : Int))) 0 (List.length (r4 ++ (List.replicate 192 (0 : Int)))) fun w8 =>
 some w8
 else none
 else none
def z4w : Sig := ⟨54, [.d c4], [], 0, zf1⟩
def z4k (x : T2) : Option (((List Int))) := z2j x
theorem z6u : FnOK Try.prog z4w z4k :=
 fn_ok zog (h := (.two .no (.two (.reg [] [10, 0, 0, 2]) (.two (.reg [0, 4, 2000008] []) .no)))) Try.func54 (z0e [] (by kernel_rfl) trivial) (by kernel_rfl) znx (fun x => by kernel_rfl)
def z11r : Env := ⟨[(entQ zio zht)], [], []⟩
theorem zyo : EnvsOK Try.prog z11r := ⟨z0d (z0j zqh) (z0l _), z0h _, z0g _⟩
def zmb : Shp := ⟨1, 0, [(0, .d (.int .i64))], []⟩
def zph : XS := .one .ret zmb.xe
theorem zwz : zph.OK := XS.one_ok (z0a zmb)
def ze0 (i : Int) (b : List Int) : Option ((Int)) :=
 (zn3 i).bind fun r =>
 bif neI r 0 then
 some r
 else
 z0f (List.length b) (
 bif neI (List.length b : Nat) 256 then
 some 1
 else
 bif Nat.ble 256 (List.length (List.replicate 256 (0 : Int))) then
 none
 else none)
def zch : Sig := ⟨53, [.c .nilp, .d (.int .i64), .d (.sl (.int .u8))], [], 0, zph⟩
def zbn (x : Int × (List Int)) : Option ((Int)) := ze0 x.1 x.2
theorem zfg : FnOK Try.prog zch zbn :=
 fn_ok zyo (h := .no) Try.func53 (z0e [] (by kernel_rfl) trivial) (by kernel_rfl) zwz (fun x => by kernel_rfl)
def zyx : Env := ⟨[(entQ zil zhv)], [], []⟩
theorem zve : EnvsOK Try.prog zyx := ⟨z0d (z0j zpv) (z0l _), z0h _, z0g _⟩
def zj8 : Shp := ⟨1, 0, [(0, .d (.int .i64))], []⟩
def zmv : XS := .one .ret zj8.xe
theorem zu9 : zmv.OK := XS.one_ok (z0a zj8)
def zcb  : Option ((Int)) :=
 (zmx).bind fun r =>
 bif r then
 some 6
 else
 none
def zb8 : Sig := ⟨55, [.c .nilp], [], 0, zmv⟩
def zao (x : Unit) : Option ((Int)) := zcb 
theorem zdl : FnOK Try.prog zb8 zao :=
 fn_ok zve (h := .no) Try.func55 (z0e [] (by kernel_rfl) trivial) (by kernel_rfl) zu9 (fun x => by kernel_rfl)
def zxq : Env := ⟨[(entQ z4w z4k), (entQ zch zbn), (entQ zb8 zao)], [], []⟩
theorem ztr : EnvsOK Try.prog zxq := ⟨z0d (z0j z6u) (z0d (z0j zfg) (z0d (z0j zdl) (z0l _))), z0h _, z0g _⟩
def zft : Shp := ⟨34, 1, [(0, .pt 0 r6 []), (3, .pt 1 r7 []), (5, .d (.int .i64))], [.var 75 (.ag [.c .nilp, .d c4, .d (.sl (.int .u8)), .d (.int .i64), .d .bool]), .var 73 (.d c4)]⟩
def zc2 : XS := .one .normal zft.xe
theorem zqn : zc2.OK := XS.one_ok (z0a zft)
def zid : Shp := ⟨1, 1, [(0, .d (.int .i64))], [.var 75 (.ag [.c .nilp, .d c4, .d (.sl (.int .u8)), .d (.int .i64), .d .bool])]⟩
def zkw : XS := .one .ret zid.xe
theorem ztc : zkw.OK := XS.one_ok (z0a zid)
def zna (t : T2) (j : T2) (j2 : List Int) (j3 : Int) (j4 : Bool) : Option ((Int × T2 × (List Int) × Int × Bool)) :=
 (z2j t).bind fun r =>
 (ze0 (W64 (Int.tmod t.1 2)) r).bind fun r2 =>
 (show Option ((Int × T2 × (List Int) × Int × Bool × T2)) from
 bif eqI r2 0 then
 (zcb).bind fun r3 =>
 some (r3, j, j2, j3, j4, t)
 else
 some (r2, j, j2, j3, j4, t)).bind fun j5 =>
 bif neI j5.1 0 then
 some (j5.1, j5.2.1, j5.2.2.1, j5.2.2.2.1, true)
 else
 some (0, j5.2.2.2.2.2, j5.2.2.1, j5.2.2.2.1, j5.2.2.2.2.1)
def zkl : Sig := ⟨33, [.pt 0 r6 [], .d c4], [.var 75 (.ag [.c .nilp, .d c4, .d (.sl (.int .u8)), .d (.int .i64), .d .bool])], 1, zkw⟩
def ziy (x : T2 × T2 × (List Int) × Int × Bool) : Option ((Int × T2 × (List Int) × Int × Bool)) := zna x.1 x.2.1 x.2.2.1 x.2.2.2.1 x.2.2.2.2
theorem zv5 : FnOK Try.prog zkl ziy :=
 fn_ok ztr (h := (.two .no (.two .no (.join (fun _ => zc2) .no .no)))) Try.func33 (z0e [.xs (fun _ => zc2)] (by kernel_rfl) ⟨(z1p zqn), trivial⟩) (by kernel_rfl) ztc (fun x => by kernel_rfl)
def z13y : Env := ⟨[(entQ z8v z8c)], [], []⟩
theorem z10f : EnvsOK Try.prog z13y := ⟨z0d (z0j zag) (z0l _), z0h _, z0g _⟩
def zn9 : Shp := ⟨1, 0, [(0, .d (.int .i64))], []⟩
def zqj : XS := .one .ret zn9.xe
theorem zyh : zqj.OK := XS.one_ok (z0a zn9)
def zk4 (j : T2) (j2 : List Int) (j3 : Int) (j4 : Bool) (side : Int) (i : Int) : Option ((Int)) :=
 (zaw).bind fun r =>
 some (W64 ((W64 (2 + (W64 (side * r)))) + i))
def zhn : Sig := ⟨34, [.rf (.ag [.c .nilp, .d c4, .d (.sl (.int .u8)), .d (.int .i64), .d .bool]), .d (.int .i64), .d (.int .i64)], [], 0, zqj⟩
def zgq (x : T2 × (List Int) × Int × Bool × Int × Int) : Option ((Int)) := zk4 x.1 x.2.1 x.2.2.1 x.2.2.2.1 x.2.2.2.2.1 x.2.2.2.2.2
theorem zor : FnOK Try.prog zhn zgq :=
 fn_ok z10f (h := .no) Try.func34 (z0e [] (by kernel_rfl) trivial) (by kernel_rfl) zyh (fun x => by kernel_rfl)
def zxo : Env := ⟨[(entQ z4w z4k), (entQ zch zbn), (entQ zb8 zao)], [], []⟩
theorem zua : EnvsOK Try.prog zxo := ⟨z0d (z0j z6u) (z0d (z0j zfg) (z0d (z0j zdl) (z0l _))), z0h _, z0g _⟩
def zfu : Shp := ⟨34, 1, [(0, .pt 0 r6 []), (3, .pt 1 r7 []), (5, .d (.int .i64))], [.var 75 (.ag [.c .nilp, .d c4, .wn 2 (.int .u8), .d (.int .i64), .d .bool]), .var 73 (.d c4), .row 5 (.int .u8)]⟩
def zc8 : XS := .one .normal zfu.xe
theorem zqk : zc8.OK := XS.one_ok (z0a zfu)
def zib : Shp := ⟨1, 1, [(0, .d (.int .i64))], [.var 75 (.ag [.c .nilp, .d c4, .d (.sl (.int .u8)), .d (.int .i64), .d .bool])]⟩
def zla : XS := .one .ret zib.xe
theorem zsg : zla.OK := XS.one_ok (z0a zib)
def znu (t : T2) (j : T2) (j2 : Int) (j3 : Bool) (j4 : List Int) : Option ((Int × T2 × (List Int) × Int × Bool)) :=
 (z2j t).bind fun r =>
 (ze0 (W64 (Int.tmod t.1 2)) r).bind fun r2 =>
 (show Option ((Int × T2 × Int × Bool × T2 × (List Int))) from
 bif eqI r2 0 then
 (zcb).bind fun r3 =>
 bif Nat.beq (List.length j4) (List.length j4) then
 some (r3, j, j2, j3, t, j4)
 else none
 else
 bif Nat.beq (List.length j4) (List.length j4) then
 some (r2, j, j2, j3, t, j4)
 else none).bind fun j5 =>
 bif neI j5.1 0 then
 winK j5.2.2.2.2.2 0 (List.length j5.2.2.2.2.2) fun w =>
 some (j5.1, j5.2.1, w, j5.2.2.1, true)
 else
 winK j5.2.2.2.2.2 0 (List.length j5.2.2.2.2.2) fun w2 =>
 some (0, j5.2.2.2.2.1, w2, j5.2.2.1, j5.2.2.2.1)
def zky : Sig := ⟨33, [.pt 0 r6 [], .d c4], [.var 75 (.ag [.c .nilp, .d c4, .wn 1 (.int .u8), .d (.int .i64), .d .bool]), .row 5 (.int .u8)], 1, zla⟩
def zjg (x : T2 × T2 × Int × Bool × (List Int)) : Option ((Int × T2 × (List Int) × Int × Bool)) := znu x.1 x.2.1 x.2.2.1 x.2.2.2.1 x.2.2.2.2
theorem zw3 : FnOK Try.prog zky zjg :=
 fn_ok zua (h := (.two .no (.two .no (.join (fun _ => zc8) .no .no)))) Try.func33 (z0e [.xs (fun _ => zc8)] (by kernel_rfl) ⟨(z1p zqk), trivial⟩) (by kernel_rfl) zsg (fun x => by kernel_rfl)
def z1nu : Env := ⟨[], [], []⟩
theorem z19s : EnvsOK Try.prog z1nu := ⟨z0l _, z0h _, z0g _⟩
def zov : Shp := ⟨27, 0, [(3, .d (.int .u32)), (4, .d (.int .u32))], []⟩
def zb9 : XS := .one (.exit 0) zov.xe
theorem z10p : zb9.OK := XS.one_ok (z0a zov)
def zba : Shp := ⟨27, 0, [(3, .d (.int .u32)), (4, .d (.int .u32)), (7, .d (.sl (.int .u8))), (8, .d (.int .i64)), (9, .d (.int .i64))], []⟩
abbrev ziq := Int × Int × (List Int) × Int × Int
abbrev zr6 := (Int × Int)
def zbb (low : Int) (high : Int) (t7 : List Int) (t8 : Int) (t9 : Int) : Option (ziq ⊕ zr6) :=
 bif ltI t9 t8 then
 (idxI t7 t9).bind fun x =>
 some (.inl ((Int.tmod ((WU32 (low + (WU32 (x))))) 65521, Int.tmod ((WU32 (high + (Int.tmod ((WU32 (low + (WU32 (x))))) 65521)))) 65521, t7, t8, W64 (t9 + 1))))
 else
 some (.inr (low, high))
def z8z (s : ziq) : Option (ziq ⊕ zr6) := zbb s.1 s.2.1 s.2.2.1 s.2.2.2.1 s.2.2.2.2
theorem z11n : SoundD Try.prog (.loop (subC (bodyC Try.f76) [1, 1, 0, 1, 0, 0])) (loopD zba.xe zb9 (loopC z8z)) :=
 z1f (S := zba.xe) (X := zb9) z19s (h := .no) (z0e [] (by kernel_rfl) trivial) (z0a zba) z10p z8z (fun s => by kernel_rfl)
def z19t : Shp := ⟨1, 0, [(0, .d (.int .u32))], []⟩
def z1eo : XS := .one .ret z19t.xe
theorem z1h2 : z1eo.OK := XS.one_ok (z0a z19t)
def z11c (b : List Int) : Option ((Int)) :=
 z0f (List.length b) (
 (loopC z8z (1, 0, b, (List.length b : Nat), 0)).bind fun o =>
 some (bitI .or .u32 (shI .shl .u32 o.2 16) o.1))
def z18d : Sig := ⟨76, [.d (.sl (.int .u8))], [], 0, z1eo⟩
def z14q (x : (List Int)) : Option ((Int)) := z11c x
theorem z1cr : FnOK Try.prog z18d z14q :=
 fn_ok z19s (h := (.two .no (.two .no (.two (.two .no (.over (loopD zba.xe zb9 (loopC z8z)))) .no)))) Try.func76 (z0e [.den (.loop (subC (bodyC Try.f76) [1, 1, 0, 1, 0, 0])) (loopD zba.xe zb9 (loopC z8z))] (by kernel_rfl) ⟨z11n, trivial⟩) (by kernel_rfl) z1h2 (fun x => by kernel_rfl)
def z1ll : Env := ⟨[(entQ z18d z14q)], [], []⟩
theorem z1gu : EnvsOK Try.prog z1ll := ⟨z0d (z0j z1cr) (z0l _), z0h _, z0g _⟩
def z15y : Shp := ⟨1, 0, [(0, .d (.sl (.int .u8)))], []⟩
def z1d9 : XS := .one .ret z15y.xe
theorem z1ga : z1d9.OK := XS.one_ok (z0a z15y)
def z14h (b : List Int) : Option (((List Int))) :=
 (z11c b).bind fun r =>
 appG (List.length ([] : List Int)) (List.length b) 1 fun _ =>
 bif Nat.beq (List.length b) (List.length b) then
 appG (List.length b) (List.length ([WU8 (shI .shr .u32 r 24), WU8 (shI .shr .u32 r 16), WU8 (shI .shr .u32 r 8), WU8 (r)] : List Int)) 1 fun _ =>
 winK (b ++ ([WU8 (shI .shr .u32 r 24), WU8 (shI .shr .u32 r 16), WU8 (shI .shr .u32 r 8), WU8 (r)] : List Int)) 0 (List.length (b ++ ([WU8 (shI .shr .u32 r 24), WU8 (shI .shr .u32 r 16), WU8 (shI .shr .u32 r 8), WU8 (r)] : List Int))) fun w =>
 some w
 else none
def z1dl : Sig := ⟨59, [.d (.sl (.int .u8))], [], 0, z1d9⟩
def z1a6 (x : (List Int)) : Option (((List Int))) := z14h x
theorem z1jj : FnOK Try.prog z1dl z1a6 :=
 fn_ok z1gu (h := (.two .no (.two .no (.two (.reg [2] []) .no)))) Try.func59 (z0e [] (by kernel_rfl) trivial) (by kernel_rfl) z1ga (fun x => by kernel_rfl)
def z1hr : Env := ⟨[(entQ z1dl z1a6)], [], []⟩
theorem z1ec : EnvsOK Try.prog z1hr := ⟨z0d (z0j z1jj) (z0l _), z0h _, z0g _⟩
def z11t : Shp := ⟨1, 0, [(0, .tu [.wn 0 (.int .u8), .d (.int .i64)])], [.row 5 (.int .u8)]⟩
def z16b : XS := .one .ret z11t.xe
theorem z1d4 : z16b.OK := XS.one_ok (z0a z11t)
def zw4 (b : List Int) : Option ((Int × (List Int))) :=
 z0f (List.length b) (
 bif ltI (W64 ((List.length b : Nat) - 4)) 0 then
 bif Nat.beq 0 (List.length ([] : List Int)) then
 some (8, ([] : List Int))
 else none
 else
 bif subOk 0 (W64 ((List.length b : Nat) - 4)) (List.length b) then
 (z14h (subL b 0 (W64 ((List.length b : Nat) - 4)))).bind fun r =>
 bif !(eqS r b) then
 bif Nat.beq 0 (List.length ([] : List Int)) then
 some (9, ([] : List Int))
 else none
 else
 bif subOk 0 (W64 ((List.length b : Nat) - 4)) (List.length b) then
 appG (List.length ([] : List Int)) (List.length (subL b 0 (W64 ((List.length b : Nat) - 4)))) 1 fun _ =>
 bif Nat.beq (List.length (subL b 0 (W64 ((List.length b : Nat) - 4)))) (List.length (subL b 0 (W64 ((List.length b : Nat) - 4)))) then
 some ((0, subL b 0 (W64 ((List.length b : Nat) - 4))))
 else none
 else none
 else none)
def z17d : Sig := ⟨57, [.d (.sl (.int .u8))], [], 0, z16b⟩
def z14v (x : (List Int)) : Option ((Int × (List Int))) := zw4 x
theorem z1gg : FnOK Try.prog z17d z14v :=
 fn_ok z1ec (h := (.two .no (.two .no (.two .no (.two .no (.two (.reg [4] []) .no)))))) Try.func57 (z0e [] (by kernel_rfl) trivial) (by kernel_rfl) z1d4 (fun x => by kernel_rfl)
def z1bc : Env := ⟨[], [], []⟩
theorem z18a : EnvsOK Try.prog z1bc := ⟨z0l _, z0h _, z0g _⟩
def ztm : Shp := ⟨1, 1, [(0, .fn 74 [.pt 1 (.one .leaf) []])], [.row 5 (.int .u8), .var 34 (.d (.sl (.int .u8)))]⟩
def zx2 : XS := .one .ret ztm.xe
theorem z15s : zx2.OK := XS.one_ok (z0a ztm)
def zs8 (b : List Bool) (b2 : List Int) : Option (((List Int) × (List Int))) :=
 winK b2 0 (lenW b) fun w =>
 appG (List.length ([] : List Int)) (List.length w) 1 fun _ =>
 winK w 0 (List.length w) fun w2 =>
 some (b2, w2)
def zwj : Sig := ⟨56, [.ws 0 (.int .u8)], [.row 5 (.int .u8)], 1, zx2⟩
def zuv (x : (List Bool) × (List Int)) : Option (((List Int) × (List Int))) := zs8 x.1 x.2
theorem z19c : FnOK Try.prog zwj zuv :=
 fn_ok z18a (h := (.two .no (.two (.reg [2, 4] []) .no))) Try.func56 (z0e [] (by kernel_rfl) trivial) (by kernel_rfl) z15s (fun x => by kernel_rfl)
def z1ag : Env := ⟨[], [(entP zwj zuv), (entP z17d z14v)], []⟩
theorem zt5 : EnvsOK Try.prog z1ag := ⟨z0l _, z0o (z1a z19c) (z0o (z1a z1gg) (z0h _)), z0g _⟩
def zg6 : Shp := ⟨27, 4, [], [.row 5 (.int .u8), .var 28 (.wn 4 (.sl (.int .u8))), .var 24 (.d (.int .i64)), .var 28 (.wn 5 (.sl (.int .u8))), .row 34 (.sl (.int .u8)), .row 34 (.sl (.int .u8))]⟩
def z6i : XS := .one .ret zg6.xe
theorem zqv : z6i.OK := XS.one_ok (z0a zg6)
def z6n : Shp := ⟨27, 1, [(2, .pt 1 (.one .leaf) []), (3, .pt 2 (.one .leaf) []), (4, .pt 3 (.one .leaf) []), (10, .fn 74 [.rf (.d (.sl (.int .u8)))])], [.row 5 (.int .u8), .var 28 (.wn 4 (.sl (.int .u8))), .var 24 (.d (.int .i64)), .var 28 (.wn 5 (.sl (.int .u8))), .row 34 (.sl (.int .u8)), .row 34 (.sl (.int .u8))]⟩
def z9x : Shp := ⟨27, 4, [], [.row 5 (.int .u8), .var 28 (.wn 4 (.sl (.int .u8))), .var 24 (.d (.int .i64)), .var 28 (.wn 5 (.sl (.int .u8))), .row 34 (.sl (.int .u8)), .row 34 (.sl (.int .u8))]⟩
abbrev z6g := (List Int) × (List Int) × Int × (List (List Int)) × (List (List Int))
abbrev z6o := (List Int) × Int × (List (List Int)) × (List (List Int))
abbrev zcv := ((List Int) × Int × (List (List Int)) × (List (List Int)))
abbrev zuh := (List Int) × Int
def zcq (t10 : List Int) (h : List Int) (t3 : Int) (t2 : List (List Int)) (out : List (List Int)) (h2 : List Int) (h3 : Int) (h4 : List (List Int)) (h5 : List (List Int)) (t11 : List Int) (t12 : Int) : Option (z6o ⊕ zcv) :=
 bif neI t12 0 then
 bif Nat.beq 0 (List.length ([] : List (List Int))) then
 bif Nat.beq (List.length h5) (List.length h5) then
 some (.inr (h2, 7, ([] : List (List Int)), h5))
 else none
 else none
 else
 (zw4 t11).bind fun r =>
 bif neI r.1 0 then
 bif Nat.beq 0 (List.length ([] : List (List Int))) then
 bif Nat.beq (List.length h5) (List.length h5) then
 some (.inr (h2, 9, ([] : List (List Int)), h5))
 else none
 else none
 else
 winK r.2 0 (List.length r.2) fun w =>
 bif Nat.beq (List.length h5) (List.length h5) then
 appG (List.length h5) (List.length ([w] : List (List Int))) 24 fun _ =>
 bif Nat.beq (List.length h4) (List.length h4) then
 bif Nat.beq (List.length (h5 ++ ([w] : List (List Int)))) (List.length (h5 ++ ([w] : List (List Int)))) then
 some (.inl (h2, h3, h4, h5 ++ ([w] : List (List Int))))
 else none
 else none
 else none
def z1l (s : z6g) (h : z6o) (x : zuh) : Option (z6o ⊕ zcv) := zcq s.1 s.2.1 s.2.2.1 s.2.2.2.1 s.2.2.2.2 h.1 h.2.1 h.2.2.1 h.2.2.2 x.1 x.2
def z4a (s : z6g) : z6o := (s.2.1, s.2.2.1, s.2.2.2.1, s.2.2.2.2)
def z5l (s : z6g) : (List Int) := s.1
def zcu (s : z6g) : Option (z6o ⊕ zcv) := (zfm (decB (z1l s) (z4a s)) (z5l s)).bind fun tr => runB (z1l s) (z4a s) tr
theorem zrr : SoundD Try.prog (.rangeFunc (.tmp 10) #[11, 12] (subC (bodyC Try.f35) [1, 1, 0, 1, 0, 0]) (subC (bodyC Try.f35) [1, 1, 0, 1, 0, 1])) (z12l (A := [.d (.sl (.int .u8)), .d (.int .i64)]) (C := [.rf (.d (.sl (.int .u8)))]) z6n.xe z9x z6i zfm z5l z4a z1l) :=
 z1jc (A := [.d (.sl (.int .u8)), .d (.int .i64)]) (C := [.rf (.d (.sl (.int .u8)))]) (S := z6n.xe) (Sh := z9x) (X := z6i) zt5 z1ko (g1 := .no) (g2 := (.two .no (.two .no (.two .no (.reg [2000002] []))))) (z0e [] (by kernel_rfl) trivial) (z0e [] (by kernel_rfl) trivial) (z0a z6n) zqv (fun s => by kernel_rfl) (fun s => by kernel_rfl) (fun s => by kernel_rfl) (fun s => by kernel_rfl) (fun s => by kernel_rfl) (fun x => by kernel_rfl) (fun x => by kernel_rfl) z1l (fun s h x => by kernel_rfl)
def zsr : Shp := ⟨1, 1, [(0, .tu [.wn 1 (.sl (.int .u8)), .d (.int .i64)])], [.row 5 (.int .u8), .row 34 (.sl (.int .u8))]⟩
def zx1 : XS := .one .ret zsr.xe
theorem z15p : zx1.OK := XS.one_ok (z0a zsr)
def zg5 (b : List Bool) (b2 : List Int) : Option ((Int × (List Int) × (List (List Int)))) :=
 (zs8 (List.replicate (lenW b) true) b2).bind fun r =>
 bif Nat.beq 0 (List.length ([] : List (List Int))) then
 bif Nat.beq 0 (List.length ([] : List (List Int))) then
 (zcu (r.2, r.1, 0, ([] : List (List Int)), ([] : List (List Int)))).bind fun o =>
 Sum.elim (fun y =>
 bif Nat.beq (List.length y.2.2.2) (List.length y.2.2.2) then
 some (0, y.1, y.2.2.2)
 else none) (fun y2 =>
 bif Nat.beq (List.length y2.2.2.1) (List.length y2.2.2.1) then
 some (y2.2.1, y2.1, y2.2.2.1)
 else none) o
 else none
 else none
def zoe : Sig := ⟨35, [.ws 0 (.int .u8)], [.row 5 (.int .u8)], 1, zx1⟩
def zmw (x : (List Bool) × (List Int)) : Option ((Int × (List Int) × (List (List Int)))) := zg5 x.1 x.2
theorem zus : FnOK Try.prog zoe zmw :=
 fn_ok zt5 (h := (.two .no (.two .no (.two (.two .no (.over (z12l (A := [.d (.sl (.int .u8)), .d (.int .i64)]) (C := [.rf (.d (.sl (.int .u8)))]) z6n.xe z9x z6i zfm z5l z4a z1l))) .no)))) Try.func35 (z0e [.den (.rangeFunc (.tmp 10) #[11, 12] (subC (bodyC Try.f35) [1, 1, 0, 1, 0, 0]) (subC (bodyC Try.f35) [1, 1, 0, 1, 0, 1])) (z12l (A := [.d (.sl (.int .u8)), .d (.int .i64)]) (C := [.rf (.d (.sl (.int .u8)))]) z6n.xe z9x z6i zfm z5l z4a z1l)] (by kernel_rfl) ⟨zrr, trivial⟩) (by kernel_rfl) z15p (fun x => by kernel_rfl)
def z1bj : Env := ⟨[(entQ zhg zg4), (entQ z8v z8c), (entQ zqm zos), (entQ zpl zom), (entQ zhn zgq)], [(entP zky zjg), (entP zoe zmw)], []⟩
theorem zl9 : EnvsOK Try.prog z1bj := ⟨z0d (z0j zoy) (z0d (z0j zag) (z0d (z0j z11g) (z0d (z0j zxa) (z0d (z0j zor) (z0l _))))), z0o (z1a zw3) (z0o (z1a zus) (z0h _)), z0g _⟩
def zdu : Shp := ⟨138, 0, [(0, .c .nilp), (5, .pt 0 r6 [])], [.var 75 (.ag [.c .nilp, .d c4, .wn 1 (.int .u8), .d (.int .i64), .d .bool]), .row 5 (.int .u8)]⟩
def zds : Shp := ⟨138, 0, [(2, .c .nilp), (3, .d c5), (4, .d (.int .i64))], []⟩
def z4p : XS := .or (.exit 0) zdu.xe (.one .ret zds.xe)
theorem znm : z4p.OK := XS.or_ok (z0a zdu) (XS.one_ok (z0a zds))
def z4q : Shp := ⟨138, 0, [(0, .c .nilp), (5, .pt 0 r6 []), (6, .d (.int .i64)), (26, .d (.int .i64))], [.var 75 (.ag [.c .nilp, .d c4, .wn 1 (.int .u8), .d (.int .i64), .d .bool]), .row 5 (.int .u8)]⟩
abbrev zav := Int × Int × T2 × Int × Bool × (List Int)
abbrev zes := (T2 × Int × Bool × (List Int)) ⊕ ((List (List Int)) × Int)
def zpx (room : Int) (t26 : Int) (j : T2) (j2 : Int) (j3 : Bool) (j4 : List Int) : Option (zav ⊕ zes) :=
 bif ltI t26 2 then
 (zli t26).bind fun r =>
 bif neI r.2 0 then
 some (.inr (.inr ([], r.2)))
 else
 (zi7 r.1 room).bind fun r2 =>
 bif ltI j.1 r2.1 then
 bif Nat.beq (List.length j4) (List.length j4) then
 some (.inl (room, W64 (t26 + 1), r2, j2, j3, j4))
 else none
 else
 bif Nat.beq (List.length j4) (List.length j4) then
 some (.inl (room, W64 (t26 + 1), j, j2, j3, j4))
 else none
 else
 bif Nat.beq (List.length j4) (List.length j4) then
 some (.inr (.inl (j, j2, j3, j4)))
 else none
def z4v (s : zav) : Option (zav ⊕ zes) := zpx s.1 s.2.1 s.2.2.1 s.2.2.2.1 s.2.2.2.2.1 s.2.2.2.2.2
theorem zo9 : SoundD Try.prog (.loop (subC (bodyC Try.f10) [1, 1, 1, 1, 0, 1, 0, 0])) (loopD z4q.xe z4p (loopC z4v)) :=
 z1f (S := z4q.xe) (X := z4p) zl9 (h := .no) (z0e [] (by kernel_rfl) trivial) (z0a z4q) znm z4v (fun s => by kernel_rfl)
def zbs : Shp := ⟨138, 0, [(5, .pt 0 r6 [])], [.var 75 (.ag [.c .nilp, .d c4, .wn 1 (.int .u8), .d (.int .i64), .d .bool]), .row 5 (.int .u8)]⟩
def zc5 : Shp := ⟨138, 0, [(2, .c .nilp), (3, .d c5), (4, .d (.int .i64))], []⟩
def z3h : XS := .or (.exit 2) zbs.xe (.one .ret zc5.xe)
theorem zjp : z3h.OK := XS.or_ok (z0a zbs) (XS.one_ok (z0a zc5))
def z3i : Shp := ⟨138, 0, [(0, .c .nilp), (5, .pt 0 r6 []), (12, .d (.int .i64))], [.var 75 (.ag [.c .nilp, .d c4, .wn 1 (.int .u8), .d (.int .i64), .d .bool]), .row 5 (.int .u8)]⟩
abbrev z8y := Int × T2 × Int × Bool × (List Int)
abbrev zd3 := (T2 × Int × Bool × (List Int)) ⊕ ((List (List Int)) × Int)
def zn7 (i : Int) (j : T2) (j2 : Int) (j3 : Bool) (j4 : List Int) : Option (z8y ⊕ zd3) :=
 bif ltI (W64 (i * 256)) j.2.2 then
 winK j4 0 (List.length j4) fun w =>
 (zk4 j w j2 j3 j.2.1 i).bind fun r =>
 (zli r).bind fun r2 =>
 bif neI r2.2 0 then
 some (.inr (.inr ([], r2.2)))
 else
 bif Nat.beq (List.length j4) (List.length j4) then
 appG (List.length j4) (List.length r2.1) 1 fun _ =>
 bif Nat.beq (List.length (j4 ++ r2.1)) (List.length (j4 ++ r2.1)) then
 some (.inl (W64 (i + 1), j, j2, j3, j4 ++ r2.1))
 else none
 else none
 else
 bif Nat.beq (List.length j4) (List.length j4) then
 some (.inr (.inl (j, j2, j3, j4)))
 else none
def z2z (s : z8y) : Option (z8y ⊕ zd3) := zn7 s.1 s.2.1 s.2.2.1 s.2.2.2.1 s.2.2.2.2
theorem zkk : SoundD Try.prog (.loop (subC (bodyC Try.f10) [1, 1, 1, 1, 1, 1, 0, 1, 0, 0])) (loopD z3i.xe z3h (loopC z2z)) :=
 z1f (S := z3i.xe) (X := z3h) zl9 (h := .no) (z0e [] (by kernel_rfl) trivial) (z0a z3i) zjp z2z (fun s => by kernel_rfl)
def zta : Shp := ⟨1, 0, [(0, .tu [.c .nilp, .d c5, .d (.int .i64)])], []⟩
def zsi : Shp := ⟨1, 0, [(0, .tu [.pt 0 r6 [], .wn 1 (.sl (.int .u8)), .d (.int .i64)])], [.var 75 (.ag [.c .nilp, .d c4, .d (.sl (.int .u8)), .d (.int .i64), .d .bool]), .row 34 (.sl (.int .u8))]⟩
def zxp : XS := .or .ret zta.xe (.one .ret zsi.xe)
theorem z15m : zxp.OK := XS.or_ok (z0a zta) (XS.one_ok (z0a zsi))
def za8  : Option (((List (List Int)) × Int) ⊕ (Int × T2 × (List Int) × Int × Bool × (List (List Int)))) :=
 (zjy).bind fun r =>
 bif ltI r 6 then
 some (.inl ([], 1))
 else
 (zaw).bind fun r2 =>
 bif Nat.beq 0 (List.length ([] : List Int)) then
 (loopC z4v (W64 (r2 * 256), 0, (0, 0, 0), 0, false, ([] : List Int))).bind fun o =>
 Sum.elim (fun y =>
 bif eqI y.1.1 0 then
 bif Nat.beq (List.length y.2.2.2) (List.length y.2.2.2) then
 (znu (1, 0, 0) y.1 y.2.1 y.2.2.1 y.2.2.2).bind fun r3 =>
 bif neI r3.1 0 then
 some (.inl ([], r3.1))
 else
 bif Nat.beq 0 (List.length ([] : List (List Int))) then
 some (.inr (0, r3.2.1, r3.2.2.1, r3.2.2.2.1, r3.2.2.2.2, ([] : List (List Int))))
 else none
 else none
 else
 bif Nat.beq (List.length y.2.2.2) (List.length y.2.2.2) then
 (loopC z2z (0, y.1, y.2.1, y.2.2.1, y.2.2.2)).bind fun o2 =>
 Sum.elim (fun y3 =>
 bif subOk 0 y3.1.2.2 (List.length y3.2.2.2) && eqI y3.1.2.2 y3.1.2.2 then
 (zg5 (List.replicate y3.1.2.2.toNat true) y3.2.2.2).bind fun r4 =>
 bif neI r4.1 0 then
 some (.inl ([], r4.1))
 else
 z0f (List.length r4.2.2) (
 winK r4.2.1 0 y3.1.2.2.toNat fun w =>
 bif Nat.beq (List.length r4.2.2) (List.length r4.2.2) then
 some (.inr (0, y3.1, w, (List.length r4.2.2 : Nat), y3.2.2.1, r4.2.2))
 else none)
 else none) (fun y4 =>
 some (.inl (y4.1, y4.2))) o2
 else none) (fun y2 =>
 some (.inl (y2.1, y2.2))) o
 else none
def zon : Sig := ⟨10, [.c .nilp], [], 0, zxp⟩
def zn6 (x : Unit) : Option (((List (List Int)) × Int) ⊕ (Int × T2 × (List Int) × Int × Bool × (List (List Int)))) := za8 
theorem zun : FnOK Try.prog zon zn6 :=
 fn_ok zl9 (h := (.two .no (.two .no (.two .no (.two .no (.two (.two .no (.over (loopD z4q.xe z4p (loopC z4v)))) (.two .no (.two (.two .no (.over (loopD z3i.xe z3h (loopC z2z)))) .no)))))))) Try.func10 (z0e [.den (.loop (subC (bodyC Try.f10) [1, 1, 1, 1, 0, 1, 0, 0])) (loopD z4q.xe z4p (loopC z4v)), .den (.loop (subC (bodyC Try.f10) [1, 1, 1, 1, 1, 1, 0, 1, 0, 0])) (loopD z3i.xe z3h (loopC z2z))] (by kernel_rfl) ⟨zo9, zkk, trivial⟩) (by kernel_rfl) z15m (fun x => by kernel_rfl)
def zxx : Env := ⟨[], [], []⟩
theorem zu3 : EnvsOK Try.prog zxx := ⟨z0l _, z0h _, z0g _⟩
def zhy : Shp := ⟨1, 0, [(0, .d .bool)], []⟩
def zka : XS := .one .ret zhy.xe
theorem ztj : zka.OK := XS.one_ok (z0a zhy)
def zf6 (j : T2) (j2 : List Int) (j3 : Int) (j4 : Bool) : Option ((Bool)) :=
 some j4
def zdn : Sig := ⟨15, [.rf (.ag [.c .nilp, .d c4, .d (.sl (.int .u8)), .d (.int .i64), .d .bool])], [], 0, zka⟩
def zd9 (x : T2 × (List Int) × Int × Bool) : Option ((Bool)) := zf6 x.1 x.2.1 x.2.2.1 x.2.2.2
theorem zjk : FnOK Try.prog zdn zd9 :=
 fn_ok zu3 (h := .no) Try.func15 (z0e [] (by kernel_rfl) trivial) (by kernel_rfl) ztj (fun x => by kernel_rfl)
def z1it : Env := ⟨[], [], []⟩
theorem z12q : EnvsOK Try.prog z1it := ⟨z0l _, z0h _, z0g _⟩
def zc9 : Shp := ⟨41, 0, [(4, .wn 0 (.int .u8)), (6, .d (.sl (.int .u8))), (9, .d c5), (10, .d (.int .i64)), (11, .d (.int .i64))], [.row 5 (.int .u8)]⟩
def zcj : Shp := ⟨41, 0, [(2, .d (.sl (.int .u8))), (3, .d (.int .i64))], []⟩
def z9i : XS := .or .normal zc9.xe (.one .ret zcj.xe)
theorem zkm : z9i.OK := XS.or_ok (z0a zc9) (XS.one_ok (z0a zcj))
def zl8 : Shp := ⟨41, 0, [(4, .wn 0 (.int .u8))], [.row 5 (.int .u8)]⟩
def zl1 : Shp := ⟨41, 0, [(2, .d (.sl (.int .u8))), (3, .d (.int .i64))], []⟩
def z9f : XS := .or (.exit 0) zl8.xe (.one .ret zl1.xe)
theorem zvw : z9f.OK := XS.or_ok (z0a zl8) (XS.one_ok (z0a zl1))
def z9g : Shp := ⟨41, 0, [(4, .wn 0 (.int .u8)), (9, .d c5), (10, .d (.int .i64)), (11, .d (.int .i64))], [.row 5 (.int .u8)]⟩
abbrev zf7 := (List (List Int)) × Int × Int × (List Int)
abbrev zo2 := ((List Int)) ⊕ ((List Int) × Int)
def z9j (t9 : List (List Int)) (t10 : Int) (t11 : Int) (out : List Int) : Option (zf7 ⊕ zo2) :=
 bif ltI t11 t10 then
 (idxI t9 t11).bind fun x =>
 (show Option (((List Int) × (List (List Int)) × Int × Int × (List Int)) ⊕ ((List Int) × Int)) from
 z0f (List.length x) (
 bif ltI 65535 (List.length x : Nat) then
 some (.inr ([], 4))
 else
 bif ltI (List.length x : Nat) 255 then
 bif Nat.beq (List.length out) (List.length out) then
 appG (List.length out) (List.length ([WU8 ((List.length x : Nat))] : List Int)) 1 fun _ =>
 bif Nat.beq (List.length (out ++ ([WU8 ((List.length x : Nat))] : List Int))) (List.length (out ++ ([WU8 ((List.length x : Nat))] : List Int))) then
 some (.inl ((x, t9, t10, t11, out ++ ([WU8 ((List.length x : Nat))] : List Int))))
 else none
 else none
 else
 bif Nat.beq (List.length out) (List.length out) then
 appG (List.length out) (List.length ([255, WU8 (shI .shr .i64 (List.length x : Nat) 8), WU8 ((List.length x : Nat))] : List Int)) 1 fun _ =>
 bif Nat.beq (List.length (out ++ ([255, WU8 (shI .shr .i64 (List.length x : Nat) 8), WU8 ((List.length x : Nat))] : List Int))) (List.length (out ++ ([255, WU8 (shI .shr .i64 (List.length x : Nat) 8), WU8 ((List.length x : Nat))] : List Int))) then
 some (.inl ((x, t9, t10, t11, out ++ ([255, WU8 (shI .shr .i64 (List.length x : Nat) 8), WU8 ((List.length x : Nat))] : List Int))))
 else none
 else none)).bind fun j =>
 Sum.elim (fun y =>
 bif Nat.beq (List.length y.2.2.2.2) (List.length y.2.2.2.2) then
 appG (List.length y.2.2.2.2) (List.length y.1) 1 fun _ =>
 bif Nat.beq (List.length (y.2.2.2.2 ++ y.1)) (List.length (y.2.2.2.2 ++ y.1)) then
 some (.inl (y.2.1, y.2.2.1, W64 (y.2.2.2.1 + 1), y.2.2.2.2 ++ y.1))
 else none
 else none) (fun y2 =>
 some (.inr (.inr (y2.1, y2.2)))) j
 else
 bif Nat.beq (List.length out) (List.length out) then
 some (.inr (.inl out))
 else none
def z6y (s : zf7) : Option (zf7 ⊕ zo2) := z9j s.1 s.2.1 s.2.2.1 s.2.2.2
theorem zxl : SoundD Try.prog (.loop (subC (bodyC Try.f58) [1, 1, 0, 1, 0, 0])) (loopD z9g.xe z9f (loopC z6y)) :=
 z1f (S := z9g.xe) (X := z9f) z12q (h := (.two .no (.two .no (.two (.two .no (.join (fun _ => z9i) .no .no)) .no)))) (z0e [.xs (fun _ => z9i)] (by kernel_rfl) ⟨(z1p zkm), trivial⟩) (z0a z9g) zvw z6y (fun s => by kernel_rfl)
def z11s : Shp := ⟨1, 0, [(0, .tu [.d (.sl (.int .u8)), .d (.int .i64)])], []⟩
def z17o : XS := .one .ret z11s.xe
theorem z1dg : z17o.OK := XS.one_ok (z0a z11s)
def zvf (fields : List (List Int)) : Option (((List Int) × Int)) :=
 z0f (List.length fields) (
 bif Nat.beq (List.length ([] : List Int)) (List.length ([] : List Int)) then
 (loopC z6y (fields, (List.length fields : Nat), 0, ([] : List Int))).bind fun o =>
 Sum.elim (fun y =>
 winK y 0 (List.length y) fun w =>
 some (w, 0)) (fun y2 =>
 some (y2.1, y2.2)) o
 else none)
def z17v : Sig := ⟨58, [.d c5], [], 0, z17o⟩
def z15d (x : (List (List Int))) : Option (((List Int) × Int)) := zvf x
theorem z1gd : FnOK Try.prog z17v z15d :=
 fn_ok z12q (h := (.two .no (.two (.reg [0] []) (.two (.two .no (.over (loopD z9g.xe z9f (loopC z6y)))) .no)))) Try.func58 (z0e [.den (.loop (subC (bodyC Try.f58) [1, 1, 0, 1, 0, 0])) (loopD z9g.xe z9f (loopC z6y))] (by kernel_rfl) ⟨zxl, trivial⟩) (by kernel_rfl) z1dg (fun x => by kernel_rfl)
def z1h3 : Env := ⟨[(entQ z18d z14q)], [], []⟩
theorem z1ea : EnvsOK Try.prog z1h3 := ⟨z0d (z0j z1cr) (z0l _), z0h _, z0g _⟩
def z12t : Shp := ⟨1, 0, [(0, .wn 0 (.int .u8))], [.row 5 (.int .u8)]⟩
def z17e : XS := .one .ret z12t.xe
theorem z1c0 : z17e.OK := XS.one_ok (z0a z12t)
def zvp (b : List Int) : Option (((List Int))) :=
 (z11c b).bind fun r =>
 appG (List.length ([] : List Int)) (List.length b) 1 fun _ =>
 bif Nat.beq (List.length b) (List.length b) then
 appG (List.length b) (List.length ([WU8 (shI .shr .u32 r 24), WU8 (shI .shr .u32 r 16), WU8 (shI .shr .u32 r 8), WU8 (r)] : List Int)) 1 fun _ =>
 bif Nat.beq (List.length (b ++ ([WU8 (shI .shr .u32 r 24), WU8 (shI .shr .u32 r 16), WU8 (shI .shr .u32 r 8), WU8 (r)] : List Int))) (List.length (b ++ ([WU8 (shI .shr .u32 r 24), WU8 (shI .shr .u32 r 16), WU8 (shI .shr .u32 r 8), WU8 (r)] : List Int))) then
 some (b ++ ([WU8 (shI .shr .u32 r 24), WU8 (shI .shr .u32 r 16), WU8 (shI .shr .u32 r 8), WU8 (r)] : List Int))
 else none
 else none
def z17l : Sig := ⟨59, [.d (.sl (.int .u8))], [], 0, z17e⟩
def z15e (x : (List Int)) : Option (((List Int))) := zvp x
theorem z1g8 : FnOK Try.prog z17l z15e :=
 fn_ok z1ea (h := (.two .no (.two .no (.two (.reg [2] []) .no)))) Try.func59 (z0e [] (by kernel_rfl) trivial) (by kernel_rfl) z1c0 (fun x => by kernel_rfl)
def z1e8 : Env := ⟨[(entQ z17v z15d)], [(entP z17l z15e)], []⟩
theorem zok : EnvsOK Try.prog z1e8 := ⟨z0d (z0j z1gd) (z0l _), z0o (z1a z1g8) (z0h _), z0g _⟩
def zig : Shp := ⟨48, 0, [(0, .d c5), (1, .d (.int .i64)), (6, .wn 0 (.int .u8))], [.row 5 (.int .u8)]⟩
def zi6 : Shp := ⟨48, 0, [(4, .d (.sl (.int .u8))), (5, .d (.int .i64))], []⟩
def z8d : XS := .or (.exit 0) zig.xe (.one .ret zi6.xe)
theorem zsk : z8d.OK := XS.or_ok (z0a zig) (XS.one_ok (z0a zi6))
def z7x : Shp := ⟨48, 0, [(0, .d c5), (1, .d (.int .i64)), (6, .wn 0 (.int .u8)), (13, .d c5), (14, .d (.int .i64)), (15, .d (.int .i64))], [.row 5 (.int .u8)]⟩
abbrev zdj := (List (List Int)) × Int × (List (List Int)) × Int × Int × (List Int)
abbrev zks := ((List (List Int)) × Int × (List Int)) ⊕ ((List Int) × Int)
def z8a (records : List (List Int)) (room : Int) (t13 : List (List Int)) (t14 : Int) (t15 : Int) (out : List Int) : Option (zdj ⊕ zks) :=
 bif ltI t15 t14 then
 (idxI t13 t15).bind fun x =>
 z0f (List.length x) (
 bif ltI 65531 (List.length x : Nat) then
 some (.inr (.inr ([], 4)))
 else
 bif Nat.beq (List.length out) (List.length out) then
 some (.inl (records, room, t13, t14, W64 (t15 + 1), out))
 else none)
 else
 bif Nat.beq (List.length out) (List.length out) then
 some (.inr (.inl (records, room, out)))
 else none
def z5h (s : zdj) : Option (zdj ⊕ zks) := z8a s.1 s.2.1 s.2.2.1 s.2.2.2.1 s.2.2.2.2.1 s.2.2.2.2.2
theorem ztu : SoundD Try.prog (.loop (subC (bodyC Try.f36) [1, 1, 0, 1, 0, 0])) (loopD z7x.xe z8d (loopC z5h)) :=
 z1f (S := z7x.xe) (X := z8d) zok (h := .no) (z0e [] (by kernel_rfl) trivial) (z0a z7x) zsk z5h (fun s => by kernel_rfl)
def zgd : Shp := ⟨48, 0, [(6, .wn 0 (.int .u8))], [.row 5 (.int .u8)]⟩
def zga : Shp := ⟨48, 0, [(4, .d (.sl (.int .u8))), (5, .d (.int .i64))], []⟩
def z6k : XS := .or (.exit 2) zgd.xe (.one .ret zga.xe)
theorem zqs : z6k.OK := XS.or_ok (z0a zgd) (XS.one_ok (z0a zga))
def z6j : Shp := ⟨48, 0, [(1, .d (.int .i64)), (6, .wn 0 (.int .u8)), (23, .d c5), (24, .d (.int .i64)), (25, .d (.int .i64))], [.row 5 (.int .u8)]⟩
abbrev zcx := Int × (List (List Int)) × Int × Int × (List Int)
abbrev zic := ((List Int)) ⊕ ((List Int) × Int)
def z6r (room : Int) (t23 : List (List Int)) (t24 : Int) (t25 : Int) (out : List Int) : Option (zcx ⊕ zic) :=
 bif ltI t25 t24 then
 (idxI t23 t25).bind fun x =>
 z0f (List.length out) (
 bif ltI room (List.length out : Nat) then
 some (.inr (.inr ([], 5)))
 else
 (zvp x).bind fun r =>
 winK r 0 (List.length r) fun w =>
 (zvf ([w] : List (List Int))).bind fun r2 =>
 bif neI r2.2 0 then
 some (.inr (.inr ([], r2.2)))
 else
 bif Nat.beq (List.length out) (List.length out) then
 appG (List.length out) (List.length r2.1) 1 fun _ =>
 bif Nat.beq (List.length (out ++ r2.1)) (List.length (out ++ r2.1)) then
 some (.inl (room, t23, t24, W64 (t25 + 1), out ++ r2.1))
 else none
 else none)
 else
 bif Nat.beq (List.length out) (List.length out) then
 some (.inr (.inl out))
 else none
def z6l (s : zcx) : Option (zcx ⊕ zic) := z6r s.1 s.2.1 s.2.2.1 s.2.2.2.1 s.2.2.2.2
theorem zr8 : SoundD Try.prog (.loop (subC (bodyC Try.f36) [1, 1, 1, 0, 1, 0, 0])) (loopD z6j.xe z6k (loopC z6l)) :=
 z1f (S := z6j.xe) (X := z6k) zok (h := (.two .no (.two .no (.two (.two .no (.two .no (.two (.reg [2000002] []) .no))) .no)))) (z0e [] (by kernel_rfl) trivial) (z0a z6j) zqs z6l (fun s => by kernel_rfl)
def zwq : Shp := ⟨1, 0, [(0, .tu [.d (.sl (.int .u8)), .d (.int .i64)])], []⟩
def z12i : XS := .one .ret zwq.xe
theorem z19e : z12i.OK := XS.one_ok (z0a zwq)
def zdr (records : List (List Int)) (room : Int) : Option (((List Int) × Int)) :=
 z0f (List.length records) (
 bif Nat.beq 0 (List.length ([] : List Int)) then
 (loopC z5h (records, room, records, (List.length records : Nat), 0, ([] : List Int))).bind fun o =>
 Sum.elim (fun y =>
 z0f (List.length y.1) (
 bif Nat.beq (List.length y.2.2) (List.length y.2.2) then
 (loopC z6l (y.2.1, y.1, (List.length y.1 : Nat), 0, y.2.2)).bind fun o2 =>
 Sum.elim (fun y3 =>
 winK y3 0 (List.length y3) fun w =>
 some (w, 0)) (fun y4 =>
 some (y4.1, y4.2)) o2
 else none)) (fun y2 =>
 some (y2.1, y2.2)) o
 else none)
def zgg : Sig := ⟨36, [.d c5, .d (.int .i64)], [], 0, z12i⟩
def zep (x : (List (List Int)) × Int) : Option (((List Int) × Int)) := zdr x.1 x.2
theorem zjm : FnOK Try.prog zgg zep :=
 fn_ok zok (h := (.two .no (.two .no (.two (.two .no (.over (loopD z7x.xe z8d (loopC z5h)))) (.two (.two .no (.over (loopD z6j.xe z6k (loopC z6l)))) .no))))) Try.func36 (z0e [.den (.loop (subC (bodyC Try.f36) [1, 1, 0, 1, 0, 0])) (loopD z7x.xe z8d (loopC z5h)), .den (.loop (subC (bodyC Try.f36) [1, 1, 1, 0, 1, 0, 0])) (loopD z6j.xe z6k (loopC z6l))] (by kernel_rfl) ⟨ztu, zr8, trivial⟩) (by kernel_rfl) z19e (fun x => by kernel_rfl)
def z18z : Env := ⟨[], [(entP z13o zzw)], []⟩
theorem zin : EnvsOK Try.prog z18z := ⟨z0l _, z0o (z1a z19n) (z0h _), z0g _⟩
def zfv : Shp := ⟨36, 0, [(0, .d c5), (3, .d (.int .i64))], []⟩
def z5k : XS := .one (.exit 0) zfv.xe
theorem zpm : z5k.OK := XS.one_ok (z0a zfv)
def z5n : Shp := ⟨36, 0, [(0, .d c5), (3, .d (.int .i64)), (9, .d c5), (10, .d (.int .i64)), (11, .d (.int .i64))], []⟩
abbrev zbr := (List (List Int)) × Int × (List (List Int)) × Int × Int
abbrev zh1 := ((List (List Int)) × Int)
def ztd (slices : List (List Int)) (size : Int) (t9 : List (List Int)) (t10 : Int) (t11 : Int) : Option (zbr ⊕ zh1) :=
 bif ltI t11 t10 then
 (idxI t9 t11).bind fun x =>
 z0f (List.length x) (
 bif ltI (W64 (size + (List.length x : Nat))) 0 then
 none
 else
 some (.inl (slices, W64 (size + (List.length x : Nat)), t9, t10, W64 (t11 + 1))))
 else
 some (.inr (slices, size))
def z4c (s : zbr) : Option (zbr ⊕ zh1) := ztd s.1 s.2.1 s.2.2.1 s.2.2.2.1 s.2.2.2.2
theorem zqr : SoundD Try.prog (.loop (subC (bodyC Try.f38) [1, 1, 0, 1, 0, 0])) (loopD z5n.xe z5k (loopC z4c)) :=
 z1f (S := z5n.xe) (X := z5k) zin (h := .no) (z0e [] (by kernel_rfl) trivial) (z0a z5n) zpm z4c (fun s => by kernel_rfl)
def zdf : Shp := ⟨36, 0, [(6, .wn 0 (.int .u8))], [.row 5 (.int .u8)]⟩
def z4h : XS := .one (.exit 2) zdf.xe
theorem zmz : z4h.OK := XS.one_ok (z0a zdf)
def z4l : Shp := ⟨36, 0, [(6, .wn 0 (.int .u8)), (25, .d c5), (26, .d (.int .i64)), (27, .d (.int .i64))], [.row 5 (.int .u8)]⟩
abbrev zaj := (List (List Int)) × Int × Int × (List Int)
abbrev ze4 := ((List Int))
def zpk (t25 : List (List Int)) (t26 : Int) (t27 : Int) (newslice : List Int) : Option (zaj ⊕ ze4) :=
 bif ltI t27 t26 then
 (idxI t25 t27).bind fun x =>
 bif Nat.beq (List.length newslice) (List.length newslice) then
 appG (List.length newslice) (List.length x) 1 fun _ =>
 bif Nat.beq (List.length (newslice ++ x)) (List.length (newslice ++ x)) then
 some (.inl (t25, t26, W64 (t27 + 1), newslice ++ x))
 else none
 else none
 else
 bif Nat.beq (List.length newslice) (List.length newslice) then
 some (.inr newslice)
 else none
def z2r (s : zaj) : Option (zaj ⊕ ze4) := zpk s.1 s.2.1 s.2.2.1 s.2.2.2
theorem znt : SoundD Try.prog (.loop (subC (bodyC Try.f38) [1, 1, 1, 1, 0, 1, 0, 0])) (loopD z4l.xe z4h (loopC z2r)) :=
 z1f (S := z4l.xe) (X := z4h) zin (h := .no) (z0e [] (by kernel_rfl) trivial) (z0a z4l) zmz z2r (fun s => by kernel_rfl)
def zr3 : Shp := ⟨1, 0, [(0, .d (.sl (.int .u8)))], []⟩
def zur : XS := .one .ret zr3.xe
theorem z13l : zur.OK := XS.one_ok (z0a zr3)
def zew (slices : List (List Int)) : Option (((List Int))) :=
 z0f (List.length slices) (
 (loopC z4c (slices, 0, slices, (List.length slices : Nat), 0)).bind fun o =>
 (z13s o.2).bind fun r =>
 z0f (List.length o.1) (
 bif Nat.beq (List.length r) (List.length r) then
 (loopC z2r (o.1, (List.length o.1 : Nat), 0, r)).bind fun o2 =>
 winK o2 0 (List.length o2) fun w =>
 some w
 else none))
def zn4 : Sig := ⟨38, [.d c5], [], 0, zur⟩
def zkx (x : (List (List Int))) : Option (((List Int))) := zew x
theorem zt7 : FnOK Try.prog zn4 zkx :=
 fn_ok zin (h := (.two .no (.two .no (.two (.two .no (.over (loopD z5n.xe z5k (loopC z4c)))) (.two .no (.two (.two .no (.over (loopD z4l.xe z4h (loopC z2r)))) .no)))))) Try.func38 (z0e [.den (.loop (subC (bodyC Try.f38) [1, 1, 0, 1, 0, 0])) (loopD z5n.xe z5k (loopC z4c)), .den (.loop (subC (bodyC Try.f38) [1, 1, 1, 1, 0, 1, 0, 0])) (loopD z4l.xe z4h (loopC z2r))] (by kernel_rfl) ⟨zqr, znt, trivial⟩) (by kernel_rfl) z13l (fun x => by kernel_rfl)
def zyi : Env := ⟨[(entQ z8v z8c), (entQ zhn zgq), (entQ zch zbn), (entQ zb8 zao)], [(entP zkl ziy)], []⟩
theorem zjf : EnvsOK Try.prog zyi := ⟨z0d (z0j zag) (z0d (z0j zor) (z0d (z0j zfg) (z0d (z0j zdl) (z0l _)))), z0o (z1a zv5) (z0h _), z0g _⟩
def zcg : Shp := ⟨99, 1, [(0, .pt 0 r6 []), (1, .d (.int .i64)), (3, .d (.sl (.int .u8))), (4, .d (.int .i64))], [.var 75 (.ag [.c .nilp, .d c4, .d (.sl (.int .u8)), .d (.int .i64), .d .bool])]⟩
def zce : Shp := ⟨99, 1, [(10, .d (.int .i64))], [.var 75 (.ag [.c .nilp, .d c4, .d (.sl (.int .u8)), .d (.int .i64), .d .bool])]⟩
def z3t : XS := .or (.exit 0) zcg.xe (.one .ret zce.xe)
theorem zkf : z3t.OK := XS.or_ok (z0a zcg) (XS.one_ok (z0a zce))
def z3n : Shp := ⟨99, 1, [(0, .pt 0 r6 []), (1, .d (.int .i64)), (3, .d (.sl (.int .u8))), (4, .d (.int .i64)), (11, .d (.int .i64))], [.var 75 (.ag [.c .nilp, .d c4, .d (.sl (.int .u8)), .d (.int .i64), .d .bool])]⟩
abbrev z9u := Int × (List Int) × Int × Int × T2 × (List Int) × Int × Bool
abbrev zdh := (Int × (List Int) × Int × T2 × (List Int) × Int × Bool) ⊕ (Int × T2 × (List Int) × Int × Bool)
def zo0 (side : Int) (all : List Int) (count : Int) (i : Int) (j : T2) (j2 : List Int) (j3 : Int) (j4 : Bool) : Option (z9u ⊕ zdh) :=
 z0f (List.length all) (
 bif ltI (W64 (i * 256)) (List.length all : Nat) then
 bif subOk (W64 (i * 256)) (List.length all : Nat) (List.length all) then
 bif Nat.ble 256 (List.length (List.replicate 256 (0 : Int))) then
 (zk4 j j2 j3 j4 side i).bind fun r =>
 winK (cpyL (List.replicate 256 (0 : Int)) 0 256 (subL all (W64 (i * 256)) (List.length all : Nat))) 0 256 fun w =>
 (ze0 r w).bind fun r2 =>
 bif neI r2 0 then
 some (.inr (.inr (r2, j, j2, j3, true)))
 else
 some (.inl (side, all, count, W64 (i + 1), j, j2, j3, j4))
 else none
 else none
 else
 some (.inr (.inl (side, all, count, j, j2, j3, j4))))
def z3o (s : z9u) : Option (z9u ⊕ zdh) := zo0 s.1 s.2.1 s.2.2.1 s.2.2.2.1 s.2.2.2.2.1 s.2.2.2.2.2.1 s.2.2.2.2.2.2.1 s.2.2.2.2.2.2.2
theorem zlz : SoundD Try.prog (.loop (subC (bodyC Try.f37) [1, 1, 0, 1, 0, 0])) (loopD z3n.xe z3t (loopC z3o)) :=
 z1f (S := z3n.xe) (X := z3t) zjf (h := .no) (z0e [] (by kernel_rfl) trivial) (z0a z3n) zkf z3o (fun s => by kernel_rfl)
def zj2 : Shp := ⟨1, 1, [(0, .d (.int .i64))], [.var 75 (.ag [.c .nilp, .d c4, .d (.sl (.int .u8)), .d (.int .i64), .d .bool])]⟩
def zm8 : XS := .one .ret zj2.xe
theorem zud : zm8.OK := XS.one_ok (z0a zj2)
def zg9 (side : Int) (there : Int) (all : List Int) (count : Int) (j : T2) (j2 : List Int) (j3 : Int) (j4 : Bool) : Option ((Int × T2 × (List Int) × Int × Bool)) :=
 bif eqI j.1 4611686018427387904 then
 some (5, j, j2, j3, j4)
 else
 z0f (List.length all) (
 (zaw).bind fun r =>
 bif ltI (W64 (r * 256)) (List.length all : Nat) then
 some (5, j, j2, j3, j4)
 else
 (loopC z3o (side, all, count, W64 (Int.tdiv there 256), j, j2, j3, j4)).bind fun o =>
 Sum.elim (fun y =>
 (zcb).bind fun r2 =>
 bif neI r2 0 then
 some (r2, y.2.2.2.1, y.2.2.2.2.1, y.2.2.2.2.2.1, true)
 else
 z0f (List.length y.2.1) (
 (zna (WU64 (y.2.2.2.1.1 + 1), y.1, (List.length y.2.1 : Nat)) y.2.2.2.1 y.2.2.2.2.1 y.2.2.2.2.2.1 y.2.2.2.2.2.2).bind fun r3 =>
 bif neI r3.1 0 then
 some (r3.1, r3.2.1, r3.2.2.1, r3.2.2.2.1, r3.2.2.2.2)
 else
 some (0, r3.2.1, y.2.1, y.2.2.1, r3.2.2.2.2))) (fun y2 =>
 some (y2.1, y2.2.1, y2.2.2.1, y2.2.2.2.1, y2.2.2.2.2)) o)
def zee : Sig := ⟨37, [.pt 0 r6 [], .d (.int .i64), .d (.int .i64), .d (.sl (.int .u8)), .d (.int .i64)], [.var 75 (.ag [.c .nilp, .d c4, .d (.sl (.int .u8)), .d (.int .i64), .d .bool])], 1, zm8⟩
def zdo (x : Int × Int × (List Int) × Int × T2 × (List Int) × Int × Bool) : Option ((Int × T2 × (List Int) × Int × Bool)) := zg9 x.1 x.2.1 x.2.2.1 x.2.2.2.1 x.2.2.2.2.1 x.2.2.2.2.2.1 x.2.2.2.2.2.2.1 x.2.2.2.2.2.2.2
theorem zk3 : FnOK Try.prog zee zdo :=
 fn_ok zjf (h := (.two .no (.two .no (.two (.two .no (.over (loopD z3n.xe z3t (loopC z3o)))) .no)))) Try.func37 (z0e [.den (.loop (subC (bodyC Try.f37) [1, 1, 0, 1, 0, 0])) (loopD z3n.xe z3t (loopC z3o))] (by kernel_rfl) ⟨zlz, trivial⟩) (by kernel_rfl) zud (fun x => by kernel_rfl)
def zyj : Env := ⟨[(entQ zdn zd9), (entQ z8v z8c), (entQ zgg zep), (entQ zn4 zkx)], [(entP zee zdo)], []⟩
theorem zvq : EnvsOK Try.prog zyj := ⟨z0d (z0j zjk) (z0d (z0j zag) (z0d (z0j zjm) (z0d (z0j zt7) (z0l _)))), z0o (z1a zk3) (z0h _), z0g _⟩
def zj5 : Shp := ⟨1, 1, [(0, .d (.int .i64))], [.var 75 (.ag [.c .nilp, .d c4, .d (.sl (.int .u8)), .d (.int .i64), .d .bool])]⟩
def zmn : XS := .one .ret zj5.xe
theorem zu5 : zmn.OK := XS.one_ok (z0a zj5)
def zgk (records : List (List Int)) (j : T2) (j2 : List Int) (j3 : Int) (j4 : Bool) : Option ((Int × T2 × (List Int) × Int × Bool)) :=
 (zf6 j j2 j3 j4).bind fun r =>
 bif r then
 some (3, j, j2, j3, j4)
 else
 (zaw).bind fun r2 =>
 (zdr records (W64 (r2 * 256))).bind fun r3 =>
 bif neI r3.2 0 then
 some (r3.2, j, j2, j3, j4)
 else
 z0f (List.length records) (
 bif eqI (List.length records : Nat) 0 then
 some (r3.2, j, j2, j3, j4)
 else
 z0f (List.length j2) (
 (zew ([j2, r3.1] : List (List Int))).bind fun r4 =>
 z0f (List.length records) (
 (zg9 j.2.1 (List.length j2 : Nat) r4 (W64 (j3 + (List.length records : Nat))) j j2 j3 j4).bind fun r5 =>
 some (r5.1, r5.2.1, r5.2.2.1, r5.2.2.2.1, r5.2.2.2.2))))
def ze9 : Sig := ⟨11, [.pt 0 r6 [], .d c5], [.var 75 (.ag [.c .nilp, .d c4, .d (.sl (.int .u8)), .d (.int .i64), .d .bool])], 1, zmn⟩
def zdw (x : (List (List Int)) × T2 × (List Int) × Int × Bool) : Option ((Int × T2 × (List Int) × Int × Bool)) := zgk x.1 x.2.1 x.2.2.1 x.2.2.2.1 x.2.2.2.2
theorem zkp : FnOK Try.prog ze9 zdw :=
 fn_ok zvq (h := (.two .no (.two .no (.two .no (.two .no (.two (.reg [] [25, 0, 1]) .no)))))) Try.func11 (z0e [] (by kernel_rfl) trivial) (by kernel_rfl) zu5 (fun x => by kernel_rfl)
def z10m : Env := ⟨[(entQ z8v z8c)], [], []⟩
theorem zwi : EnvsOK Try.prog z10m := ⟨z0d (z0j zag) (z0l _), z0h _, z0g _⟩
def zkd : Shp := ⟨1, 0, [(0, .d (.int .i64))], []⟩
def znw : XS := .one .ret zkd.xe
theorem zvz : znw.OK := XS.one_ok (z0a zkd)
def zql (j : T2) (j2 : List Int) (j3 : Int) (j4 : Bool) : Option ((Int)) :=
 (zaw).bind fun r =>
 z0f (List.length j2) (
 some (W64 ((W64 (r * 256)) - (List.length j2 : Nat))))
def zny : Sig := ⟨13, [.rf (.ag [.c .nilp, .d c4, .d (.sl (.int .u8)), .d (.int .i64), .d .bool])], [], 0, znw⟩
def zms (x : T2 × (List Int) × Int × Bool) : Option ((Int)) := zql x.1 x.2.1 x.2.2.1 x.2.2.2
theorem zyu : FnOK Try.prog zny zms :=
 fn_ok zwi (h := .no) Try.func13 (z0e [] (by kernel_rfl) trivial) (by kernel_rfl) zvz (fun x => by kernel_rfl)
def z12g : Env := ⟨[], [], []⟩
theorem zyf : EnvsOK Try.prog z12g := ⟨z0l _, z0h _, z0g _⟩
def zml : Shp := ⟨1, 0, [(0, .d (.int .i64))], []⟩
def zpf : XS := .one .ret zml.xe
theorem zy9 : zpf.OK := XS.one_ok (z0a zml)
def ze2 (j : T2) (j2 : List Int) (j3 : Int) (j4 : Bool) : Option ((Int)) :=
 some j3
def zge : Sig := ⟨14, [.rf (.ag [.c .nilp, .d c4, .d (.sl (.int .u8)), .d (.int .i64), .d .bool])], [], 0, zpf⟩
def zfl (x : T2 × (List Int) × Int × Bool) : Option ((Int)) := ze2 x.1 x.2.1 x.2.2.1 x.2.2.2
theorem znk : FnOK Try.prog zge zfl :=
 fn_ok zyf (h := .no) Try.func14 (z0e [] (by kernel_rfl) trivial) (by kernel_rfl) zy9 (fun x => by kernel_rfl)
def z10q : Env := ⟨[], [], []⟩
theorem zxh : EnvsOK Try.prog z10q := ⟨z0l _, z0h _, z0g _⟩
def zjw : Shp := ⟨1, 0, [(0, .d (.int .i64))], []⟩
def zno : XS := .one .ret zjw.xe
theorem zw0 : zno.OK := XS.one_ok (z0a zjw)
def z8h (d : T3) : Option ((Int)) :=
 z0f (List.length d.1) (
 some (List.length d.1 : Nat))
def zfn : Sig := ⟨30, [.rf (.d c8)], [], 0, zno⟩
def ze8 (x : T3) : Option ((Int)) := z8h x
theorem zm3 : FnOK Try.prog zfn ze8 :=
 fn_ok zxh (h := .no) Try.func30 (z0e [] (by kernel_rfl) trivial) (by kernel_rfl) zw0 (fun x => by kernel_rfl)
def z15q : Env := ⟨[(entQ zfn ze8)], [], []⟩
theorem z12f : EnvsOK Try.prog z15q := ⟨z0d (z0j zm3) (z0l _), z0h _, z0g _⟩
def zp3 : Shp := ⟨1, 0, [(0, .d (.int .i64))], []⟩
def zr5 : XS := .one .ret zp3.xe
theorem zzx : zr5.OK := XS.one_ok (z0a zp3)
def z5e (d : T3) : Option ((Int)) :=
 (z8h d).bind fun r =>
 some (W64 (Int.tdiv (W64 (r - 2)) 2))
def z7f : Sig := ⟨31, [.rf (.d c8)], [], 0, zr5⟩
def z5u (x : T3) : Option ((Int)) := z5e x
theorem z8i : FnOK Try.prog z7f z5u :=
 fn_ok z12f (h := .no) Try.func31 (z0e [] (by kernel_rfl) trivial) (by kernel_rfl) zzx (fun x => by kernel_rfl)
def z11x : Env := ⟨[], [], []⟩
theorem zyv : EnvsOK Try.prog z11x := ⟨z0l _, z0h _, z0g _⟩
def zmd : Shp := ⟨1, 0, [(0, .d .bool)], []⟩
def zox : XS := .one .ret zmd.xe
theorem zy6 : zox.OK := XS.one_ok (z0a zmd)
def z7h (d : T3) : Option ((Bool)) :=
 some d.2.2.2.2.2
def zcm : Sig := ⟨39, [.rf (.d c8)], [], 0, zox⟩
def zbp (x : T3) : Option ((Bool)) := z7h x
theorem zf8 : FnOK Try.prog zcm zbp :=
 fn_ok zyv (h := .no) Try.func39 (z0e [] (by kernel_rfl) trivial) (by kernel_rfl) zy6 (fun x => by kernel_rfl)
def z10x : Env := ⟨[(entQ zcm zbp)], [], []⟩
theorem zyw : EnvsOK Try.prog z10x := ⟨z0d (z0j zf8) (z0l _), z0h _, z0g _⟩
def zmq : Shp := ⟨1, 0, [(0, .d (.int .i64))], []⟩
def zp0 : XS := .one .ret zmq.xe
theorem zx9 : zp0.OK := XS.one_ok (z0a zmq)
def z9a (d : T3) (i : Int) : Option ((Int)) :=
 (z7h d).bind fun r =>
 bif r then
 some 6
 else
 bif ltI i 0 then
 some 2
 else
 z0f (List.length d.1) (
 bif leI (List.length d.1 : Nat) i then
 some 2
 else
 some 0)
def zcl : Sig := ⟨51, [.rf (.d c8), .d (.int .i64)], [], 0, zp0⟩
def zbm (x : T3 × Int) : Option ((Int)) := z9a x.1 x.2
theorem zf9 : FnOK Try.prog zcl zbm :=
 fn_ok zyw (h := .no) Try.func51 (z0e [] (by kernel_rfl) trivial) (by kernel_rfl) zx9 (fun x => by kernel_rfl)
def z1g4 : Env := ⟨[], [], []⟩
theorem z1co : EnvsOK Try.prog z1g4 := ⟨z0l _, z0h _, z0g _⟩
def zzk : Shp := ⟨1, 0, [(0, .fs c9)], []⟩
def z15a : XS := .one .ret zzk.xe
theorem z1am : z15a.OK := XS.one_ok (z0a zzk)
def znz (t0 : List T0) : Option (((List T0))) :=
 z0f (List.length t0) (
 z0f (List.length t0) (
 bif subOk 0 (List.length t0 : Nat) (List.length t0) && eqI (List.length t0 : Nat) (List.length t0 : Nat) then
 some (subL t0 0 (List.length t0 : Nat))
 else none))
def ztq : Sig := ⟨71, [.d c2], [], 0, z15a⟩
def zs1 (x : (List T0)) : Option (((List T0))) := znz x
theorem z11b : FnOK Try.prog ztq zs1 :=
 fn_ok z1co (h := .no) Try.func71 (z0e [] (by kernel_rfl) trivial) (by kernel_rfl) z1am (fun x => by kernel_rfl)
def zzu : Env := ⟨[(entQ zcl zbm)], [], []⟩
theorem zkb : EnvsOK Try.prog zzu := ⟨z0d (z0j zf9) (z0l _), z0h _, z0g _⟩
def zc3 : Shp := ⟨40, 1, [(7, .pt 1 (.one (.arr 256 .leaf)) [])], [.var 71 (.ag [.wn 2 c1, .d c2, .d (.int .i64), .d c3, .d (.int .i64), .d .bool]), .var 86 (.d c1), .row 86 c1]⟩
def z3g : XS := .one (.exit 0) zc3.xe
theorem zjo : z3g.OK := XS.one_ok (z0a zc3)
def z2y : Shp := ⟨40, 1, [(1, .d (.int .i64)), (7, .pt 1 (.one (.arr 256 .leaf)) []), (26, .d c2), (27, .d (.int .i64)), (28, .d (.int .i64))], [.var 71 (.ag [.wn 2 c1, .d c2, .d (.int .i64), .d c3, .d (.int .i64), .d .bool]), .var 86 (.d c1), .row 86 c1]⟩
abbrev z8t := Int × (List T0) × Int × Int × (List T0) × Int × T1 × Int × Bool × (List Int) × (List (List Int))
abbrev zd0 := ((List T0) × Int × T1 × Int × Bool × (List Int) × (List (List Int)))
def z3a (i : Int) (t26 : List T0) (t27 : Int) (t28 : Int) (h : List T0) (h2 : Int) (h3 : T1) (h4 : Int) (h5 : Bool) (t7 : List Int) (h6 : List (List Int)) : Option (z8t ⊕ zd0) :=
 bif ltI t28 t27 then
 (idxI t26 t28).bind fun x =>
 bif eqI x.1 i then
 bif Nat.beq (List.length h6) (List.length h6) then
 some (.inl (i, t26, t27, W64 (t28 + 1), h, h2, h3, h4, h5, x.2, h6))
 else none
 else
 bif Nat.beq (List.length h6) (List.length h6) then
 some (.inl (i, t26, t27, W64 (t28 + 1), h, h2, h3, h4, h5, t7, h6))
 else none
 else
 bif Nat.beq (List.length h6) (List.length h6) then
 some (.inr (h, h2, h3, h4, h5, t7, h6))
 else none
def z1b (s : z8t) : Option (z8t ⊕ zd0) := z3a s.1 s.2.1 s.2.2.1 s.2.2.2.1 s.2.2.2.2.1 s.2.2.2.2.2.1 s.2.2.2.2.2.2.1 s.2.2.2.2.2.2.2.1 s.2.2.2.2.2.2.2.2.1 s.2.2.2.2.2.2.2.2.2.1 s.2.2.2.2.2.2.2.2.2.2
theorem zk6 : SoundD Try.prog (.loop (subC (bodyC Try.f28) [1, 1, 1, 0, 1, 0, 0])) (loopD z2y.xe z3g (loopC z1b)) :=
 z1f (S := z2y.xe) (X := z3g) zkb (h := .no) (z0e [] (by kernel_rfl) trivial) (z0a z2y) zjo z1b (fun s => by kernel_rfl)
def zkg : Shp := ⟨1, 1, [(0, .tu [.wn 1 (.int .u8), .d (.int .i64)])], [.var 71 (.ag [.wn 2 c1, .d c2, .d (.int .i64), .d c3, .d (.int .i64), .d .bool]), .row 86 (.int .u8), .row 86 c1]⟩
def zo1 : XS := .one .ret zkg.xe
theorem zvb : zo1.OK := XS.one_ok (z0a zkg)
def z8l (i : Int) (d : List T0) (d2 : Int) (d3 : T1) (d4 : Int) (d5 : Bool) (d6 : List (List Int)) : Option ((Int × (List T0) × Int × T1 × Int × Bool × (List Int) × (List (List Int)))) :=
 winK d6 0 (List.length d6) fun w =>
 (z9a (w, d, d2, d3, d4, d5) i).bind fun r =>
 bif neI r 0 then
 bif Nat.beq 0 (List.length ([] : List Int)) then
 bif Nat.beq (List.length d6) (List.length d6) then
 some (r, d, d2, d3, d4, d5, ([] : List Int), d6)
 else none
 else none
 else
 bif inI i (List.length d6) then
 (d6[i.toNat]?).bind fun x =>
 z0f (List.length d) (
 bif Nat.beq (List.length d6) (List.length d6) then
 (loopC z1b (i, d, (List.length d : Nat), 0, d, d2, d3, d4, d5, x, d6)).bind fun o =>
 bif Nat.beq 256 (List.length o.2.2.2.2.2.1) then
 bif Nat.beq (List.length o.2.2.2.2.2.2) (List.length o.2.2.2.2.2.2) then
 some (0, o.1, o.2.1, o.2.2.1, o.2.2.2.1, o.2.2.2.2.1, o.2.2.2.2.2.1, o.2.2.2.2.2.2)
 else none
 else none
 else none)
 else none
def znh : Sig := ⟨28, [.pt 0 r0 [], .d (.int .i64)], [.var 71 (.ag [.wn 1 c1, .d c2, .d (.int .i64), .d c3, .d (.int .i64), .d .bool]), .row 86 c1], 1, zo1⟩
def zme (x : Int × (List T0) × Int × T1 × Int × Bool × (List (List Int))) : Option ((Int × (List T0) × Int × T1 × Int × Bool × (List Int) × (List (List Int)))) := z8l x.1 x.2.1 x.2.2.1 x.2.2.2.1 x.2.2.2.2.1 x.2.2.2.2.2.1 x.2.2.2.2.2.2
theorem zyb : FnOK Try.prog znh zme :=
 fn_ok zkb (h := (.two .no (.two .no (.two .no (.two (.two .no (.over (loopD z2y.xe z3g (loopC z1b)))) .no))))) Try.func28 (z0e [.den (.loop (subC (bodyC Try.f28) [1, 1, 1, 0, 1, 0, 0])) (loopD z2y.xe z3g (loopC z1b))] (by kernel_rfl) ⟨zk6, trivial⟩) (by kernel_rfl) zvb (fun x => by kernel_rfl)
def z1ee : Env := ⟨[], [], []⟩
theorem zwv : EnvsOK Try.prog z1ee := ⟨z0l _, z0h _, z0g _⟩
def zju : Shp := ⟨19, 0, [], []⟩
def zlg : Shp := ⟨19, 0, [(4, .d (.int .i64))], []⟩
def z9q : XS := .or (.exit 0) zju.xe (.one .ret zlg.xe)
theorem zvt : z9q.OK := XS.or_ok (z0a zju) (XS.one_ok (z0a zlg))
def z9s : Shp := ⟨19, 0, [(0, .d (.sl (.int .i64))), (1, .d (.int .i64)), (7, .d (.int .i64)), (8, .d (.int .i64))], []⟩
abbrev zfk := (List Int) × Int × Int × Int
abbrev znf := (Unit) ⊕ (Int)
def zbo (t0 : List Int) (v : Int) (t7 : Int) (t8 : Int) : Option (zfk ⊕ znf) :=
 bif ltI t8 t7 then
 (idxI t0 t8).bind fun x =>
 bif eqI v x then
 some (.inr (.inr t8))
 else
 some (.inl (t0, v, t7, W64 (t8 + 1)))
 else
 some (.inr (.inl ()))
def z3p (s : zfk) : Option (zfk ⊕ znf) := zbo s.1 s.2.1 s.2.2.1 s.2.2.2
theorem zxw : SoundD Try.prog (.loop (subC (bodyC Try.f61) [1, 0, 1, 0, 0])) (loopD z9s.xe z9q (loopC z3p)) :=
 z1f (S := z9s.xe) (X := z9q) zwv (h := .no) (z0e [] (by kernel_rfl) trivial) (z0a z9s) zvt z3p (fun s => by kernel_rfl)
def zxi : Shp := ⟨1, 0, [(0, .d (.int .i64))], []⟩
def z11d : XS := .one .ret zxi.xe
theorem z19f : z11d.OK := XS.one_ok (z0a zxi)
def zwu (t0 : List Int) (v : Int) : Option ((Int)) :=
 z0f (List.length t0) (
 (loopC z3p (t0, v, (List.length t0 : Nat), 0)).bind fun o =>
 Sum.elim (fun y =>
 some (-1)) (fun y2 =>
 some y2) o)
def z11o : Sig := ⟨61, [.d (.sl (.int .i64)), .d (.int .i64)], [], 0, z11d⟩
def zyz (x : (List Int) × Int) : Option ((Int)) := zwu x.1 x.2
theorem z1dh : FnOK Try.prog z11o zyz :=
 fn_ok zwv (h := (.two .no (.two (.two .no (.over (loopD z9s.xe z9q (loopC z3p)))) .no))) Try.func61 (z0e [.den (.loop (subC (bodyC Try.f61) [1, 0, 1, 0, 0])) (loopD z9s.xe z9q (loopC z3p))] (by kernel_rfl) ⟨zxw, trivial⟩) (by kernel_rfl) z19f (fun x => by kernel_rfl)
def z19d : Env := ⟨[(entQ z11o zyz)], [], []⟩
theorem z15n : EnvsOK Try.prog z19d := ⟨z0d (z0j z1dh) (z0l _), z0h _, z0g _⟩
def zr2 : Shp := ⟨1, 0, [(0, .d .bool)], []⟩
def zuu : XS := .one .ret zr2.xe
theorem z13n : zuu.OK := XS.one_ok (z0a zr2)
def zjd (t0 : List Int) (v : Int) : Option ((Bool)) :=
 (zwu t0 v).bind fun r =>
 some (leI 0 r)
def zuw : Sig := ⟨40, [.d (.sl (.int .i64)), .d (.int .i64)], [], 0, zuu⟩
def zsn (x : (List Int) × Int) : Option ((Bool)) := zjd x.1 x.2
theorem z16x : FnOK Try.prog zuw zsn :=
 fn_ok z15n (h := .no) Try.func40 (z0e [] (by kernel_rfl) trivial) (by kernel_rfl) z13n (fun x => by kernel_rfl)
def z11j : Env := ⟨[(entQ zcm zbp), (entQ zuw zsn)], [], []⟩
theorem zm9 : EnvsOK Try.prog z11j := ⟨z0d (z0j zf8) (z0d (z0j z16x) (z0l _)), z0h _, z0g _⟩
def z8r : Shp := ⟨53, 1, [(0, .pt 0 r0 []), (3, .pt 1 r7 []), (5, .pt 2 r10 []), (6, .d (.int .i64)), (12, .d c2), (13, .d (.int .i64)), (14, .d (.int .i64))], [.var 71 (.ag [.wn 3 c1, .d c2, .d (.int .i64), .d c3, .d (.int .i64), .d .bool]), .var 38 (.d c3), .var 88 (.d c9), .row 86 c1]⟩
def z4y : XS := .one .normal z8r.xe
theorem ze3 : z4y.OK := XS.one_ok (z0a z8r)
def zdc : Shp := ⟨53, 1, [(0, .pt 0 r0 [])], [.var 71 (.ag [.wn 1 c1, .d c2, .d (.int .i64), .d c3, .d (.int .i64), .d .bool]), .row 86 c1]⟩
def z4d : XS := .one (.exit 0) zdc.xe
theorem zn5 : z4d.OK := XS.one_ok (z0a zdc)
def z4i : Shp := ⟨53, 1, [(0, .pt 0 r0 []), (3, .pt 1 r7 []), (12, .d c2), (13, .d (.int .i64)), (14, .d (.int .i64))], [.var 71 (.ag [.wn 2 c1, .d c2, .d (.int .i64), .d c3, .d (.int .i64), .d .bool]), .var 38 (.d c3), .row 86 c1]⟩
abbrev zak := (List T0) × Int × Int × (List T0) × Int × T1 × Int × Bool × T1 × (List (List Int))
abbrev ze6 := ((List T0) × Int × T1 × Int × Bool × (List (List Int)))
def z4j (t12 : List T0) (t13 : Int) (t14 : Int) (d : List T0) (d2 : Int) (d3 : T1) (d4 : Int) (d5 : Bool) (c : T1) (d6 : List (List Int)) : Option (zak ⊕ ze6) :=
 bif ltI t14 t13 then
 (idxI t12 t14).bind fun x =>
 (show Option ((Int × (List T0) × Int × Int × (List T0) × Int × T1 × Int × Bool × T1 × T0 × (List (List Int)))) from
 (zjd c.1 t14).bind fun r =>
 bif r then
 bif Nat.beq (List.length d6) (List.length d6) then
 some (256, t12, t13, t14, d, d2, d3, d4, d5, c, x, d6)
 else none
 else
 bif eqI c.2.1 t14 then
 bif Nat.beq (List.length d6) (List.length d6) then
 some (maxI 0 (minI c.2.2 256), t12, t13, t14, d, d2, d3, d4, d5, c, x, d6)
 else none
 else
 bif Nat.beq (List.length d6) (List.length d6) then
 some (0, t12, t13, t14, d, d2, d3, d4, d5, c, x, d6)
 else none).bind fun j =>
 bif inI j.2.2.2.2.2.2.2.2.2.2.1.1 (List.length j.2.2.2.2.2.2.2.2.2.2.2) then
 (j.2.2.2.2.2.2.2.2.2.2.2[j.2.2.2.2.2.2.2.2.2.2.1.1.toNat]?).bind fun x2 =>
 bif subOk 0 j.1 256 then
 winK j.2.2.2.2.2.2.2.2.2.2.1.2 0 256 fun w =>
 (j.2.2.2.2.2.2.2.2.2.2.2[j.2.2.2.2.2.2.2.2.2.2.1.1.toNat]?).bind fun x3 =>
 bif Nat.ble j.1.toNat (List.length x3) then
 (j.2.2.2.2.2.2.2.2.2.2.2[j.2.2.2.2.2.2.2.2.2.2.1.1.toNat]?).bind fun _x =>
 bif Nat.beq (List.length j.2.2.2.2.2.2.2.2.2.2.2) (List.length (j.2.2.2.2.2.2.2.2.2.2.2.set j.2.2.2.2.2.2.2.2.2.2.1.1.toNat (cpyL x3 0 j.1.toNat w))) then
 some (.inl (j.2.1, j.2.2.1, W64 (j.2.2.2.1 + 1), j.2.2.2.2.1, j.2.2.2.2.2.1, j.2.2.2.2.2.2.1, j.2.2.2.2.2.2.2.1, j.2.2.2.2.2.2.2.2.1, j.2.2.2.2.2.2.2.2.2.1, j.2.2.2.2.2.2.2.2.2.2.2.set j.2.2.2.2.2.2.2.2.2.2.1.1.toNat (cpyL x3 0 j.1.toNat w)))
 else none
 else none
 else none
 else none
 else
 bif Nat.beq (List.length d6) (List.length d6) then
 some (.inr (d, d2, d3, d4, d5, d6))
 else none
def z1i (s : zak) : Option (zak ⊕ ze6) := z4j s.1 s.2.1 s.2.2.1 s.2.2.2.1 s.2.2.2.2.1 s.2.2.2.2.2.1 s.2.2.2.2.2.2.1 s.2.2.2.2.2.2.2.1 s.2.2.2.2.2.2.2.2.1 s.2.2.2.2.2.2.2.2.2
theorem znj : SoundD Try.prog (.loop (subC (bodyC Try.f17) [1, 1, 0, 1, 0, 0])) (loopD z4i.xe z4d (loopC z1i)) :=
 z1f (S := z4i.xe) (X := z4d) zm9 (h := (.two .no (.two .no (.two (.two .no (.two .no (.join (fun _ => z4y) .no (.reg [] [11, 0])))) .no)))) (z0e [.xs (fun _ => z4y)] (by kernel_rfl) ⟨(z1p ze3), trivial⟩) (z0a z4i) zn5 z1i (fun s => by kernel_rfl)
def zmo : Shp := ⟨1, 1, [(0, .tu [])], [.var 71 (.ag [.wn 1 c1, .d c2, .d (.int .i64), .d c3, .d (.int .i64), .d .bool]), .row 86 c1]⟩
def zpg : XS := .one .ret zmo.xe
theorem zxu : zpg.OK := XS.one_ok (z0a zmo)
def ze1 (c : T1) (d : List T0) (d2 : Int) (d3 : T1) (d4 : Int) (d5 : Bool) (d6 : List (List Int)) : Option (((List T0) × Int × T1 × Int × Bool × (List (List Int)))) :=
 winK d6 0 (List.length d6) fun w =>
 (z7h (w, d, d2, d3, d4, d5)).bind fun r =>
 bif r then
 bif Nat.beq (List.length d6) (List.length d6) then
 some (d, d2, d3, d4, d5, d6)
 else none
 else
 z0f (List.length d) (
 bif Nat.beq (List.length d6) (List.length d6) then
 (loopC z1i (d, (List.length d : Nat), 0, d, d2, d3, d4, d5, c, d6)).bind fun o =>
 bif Nat.beq (List.length o.2.2.2.2.2) (List.length o.2.2.2.2.2) then
 some ([], (-1), o.2.2.1, o.2.2.2.1, true, o.2.2.2.2.2)
 else none
 else none)
def zpb : Sig := ⟨17, [.pt 0 r0 [], .d c3], [.var 71 (.ag [.wn 1 c1, .d c2, .d (.int .i64), .d c3, .d (.int .i64), .d .bool]), .row 86 c1], 1, zpg⟩
def znn (x : T1 × (List T0) × Int × T1 × Int × Bool × (List (List Int))) : Option (((List T0) × Int × T1 × Int × Bool × (List (List Int)))) := ze1 x.1 x.2.1 x.2.2.1 x.2.2.2.1 x.2.2.2.2.1 x.2.2.2.2.2.1 x.2.2.2.2.2.2
theorem z10b : FnOK Try.prog zpb znn :=
 fn_ok zm9 (h := (.two .no (.two .no (.two (.two .no (.over (loopD z4i.xe z4d (loopC z1i)))) .no)))) Try.func17 (z0e [.den (.loop (subC (bodyC Try.f17) [1, 1, 0, 1, 0, 0])) (loopD z4i.xe z4d (loopC z1i))] (by kernel_rfl) ⟨znj, trivial⟩) (by kernel_rfl) zxu (fun x => by kernel_rfl)
def zx4 : Env := ⟨[], [(entP zpb znn)], []⟩
theorem zu4 : EnvsOK Try.prog zx4 := ⟨z0l _, z0o (z1a z10b) (z0h _), z0g _⟩
def zih : Shp := ⟨1, 1, [(0, .d (.int .i64))], [.var 71 (.ag [.wn 1 c1, .d c2, .d (.int .i64), .d c3, .d (.int .i64), .d .bool]), .row 86 c1]⟩
def zlc : XS := .one .ret zih.xe
theorem zte : zlc.OK := XS.one_ok (z0a zih)
def z6v (d : List T0) (d2 : Int) (d3 : T1) (d4 : Int) (d5 : Bool) (d6 : List (List Int)) : Option ((Int × (List T0) × Int × T1 × Int × Bool × (List (List Int)))) :=
 bif ltI d2 0 then
 bif Nat.beq (List.length d6) (List.length d6) then
 some (0, d, d2, d3, W64 (d4 + 1), d5, d6)
 else none
 else
 bif ltI (W64 (d2 - 1)) 0 then
 bif Nat.beq (List.length d6) (List.length d6) then
 (ze1 d3 d (W64 (d2 - 1)) d3 (W64 (d4 + 1)) d5 d6).bind fun r =>
 bif Nat.beq (List.length r.2.2.2.2.2) (List.length r.2.2.2.2.2) then
 some (6, r.1, r.2.1, r.2.2.1, r.2.2.2.1, r.2.2.2.2.1, r.2.2.2.2.2)
 else none
 else none
 else
 bif Nat.beq (List.length d6) (List.length d6) then
 some (0, d, W64 (d2 - 1), d3, W64 (d4 + 1), d5, d6)
 else none
def zam : Sig := ⟨72, [.pt 0 r0 []], [.var 71 (.ag [.wn 1 c1, .d c2, .d (.int .i64), .d c3, .d (.int .i64), .d .bool]), .row 86 c1], 1, zlc⟩
def zah (x : (List T0) × Int × T1 × Int × Bool × (List (List Int))) : Option ((Int × (List T0) × Int × T1 × Int × Bool × (List (List Int)))) := z6v x.1 x.2.1 x.2.2.1 x.2.2.2.1 x.2.2.2.2.1 x.2.2.2.2.2
theorem zdb : FnOK Try.prog zam zah :=
 fn_ok zu4 (h := .no) Try.func72 (z0e [] (by kernel_rfl) trivial) (by kernel_rfl) zte (fun x => by kernel_rfl)
def zye : Env := ⟨[(entQ zcl zbm), (entQ ztq zs1)], [(entP zam zah)], []⟩
theorem zvv : EnvsOK Try.prog zye := ⟨z0d (z0j zf9) (z0d (z0j z11b) (z0l _)), z0o (z1a zdb) (z0h _), z0g _⟩
def ziw : Shp := ⟨1, 1, [(0, .d (.int .i64))], [.var 71 (.ag [.wn 1 c1, .d c2, .d (.int .i64), .d c3, .d (.int .i64), .d .bool]), .row 86 c1]⟩
def zm7 : XS := .one .ret ziw.xe
theorem ztp : zm7.OK := XS.one_ok (z0a ziw)
def zac (i : Int) (b : List Int) (d : List T0) (d2 : Int) (d3 : T1) (d4 : Int) (d5 : Bool) (d6 : List (List Int)) : Option ((Int × (List T0) × Int × T1 × Int × Bool × (List (List Int)))) :=
 winK d6 0 (List.length d6) fun w =>
 (z9a (w, d, d2, d3, d4, d5) i).bind fun r =>
 bif neI r 0 then
 bif Nat.beq (List.length d6) (List.length d6) then
 some (r, d, d2, d3, d4, d5, d6)
 else none
 else
 z0f (List.length b) (
 bif neI (List.length b : Nat) 256 then
 bif Nat.beq (List.length d6) (List.length d6) then
 some (1, d, d2, d3, d4, d5, d6)
 else none
 else
 bif Nat.ble 256 (List.length (List.replicate 256 (0 : Int))) then
 (znz d).bind fun r2 =>
 appG (List.length r2) (List.length (([(i, cpyL (List.replicate 256 (0 : Int)) 0 256 b)] : List T0))) 264 fun _ =>
 bif Nat.beq (List.length d6) (List.length d6) then
 (z6v (r2 ++ (([(i, cpyL (List.replicate 256 (0 : Int)) 0 256 b)] : List T0))) d2 d3 d4 d5 d6).bind fun r3 =>
 bif Nat.beq (List.length r3.2.2.2.2.2.2) (List.length r3.2.2.2.2.2.2) then
 some (r3.1, r3.2.1, r3.2.2.1, r3.2.2.2.1, r3.2.2.2.2.1, r3.2.2.2.2.2.1, r3.2.2.2.2.2.2)
 else none
 else none
 else none)
def zeb : Sig := ⟨53, [.pt 0 r0 [], .d (.int .i64), .d (.sl (.int .u8))], [.var 71 (.ag [.wn 1 c1, .d c2, .d (.int .i64), .d c3, .d (.int .i64), .d .bool]), .row 86 c1], 1, zm7⟩
def zdt (x : Int × (List Int) × (List T0) × Int × T1 × Int × Bool × (List (List Int))) : Option ((Int × (List T0) × Int × T1 × Int × Bool × (List (List Int)))) := zac x.1 x.2.1 x.2.2.1 x.2.2.2.1 x.2.2.2.2.1 x.2.2.2.2.2.1 x.2.2.2.2.2.2.1 x.2.2.2.2.2.2.2
theorem zkr : FnOK Try.prog zeb zdt :=
 fn_ok zvv (h := .no) Try.func53 (z0e [] (by kernel_rfl) trivial) (by kernel_rfl) ztp (fun x => by kernel_rfl)
def zva : Env := ⟨[(entQ zcm zbp)], [(entP zam zah)], []⟩
theorem zh5 : EnvsOK Try.prog zva := ⟨z0d (z0j zf8) (z0l _), z0o (z1a zdb) (z0h _), z0g _⟩
def zb6 : Shp := ⟨35, 1, [(0, .pt 0 r0 [])], [.var 71 (.ag [.wn 1 c1, .d c2, .d (.int .i64), .d c3, .d (.int .i64), .d .bool]), .row 86 c1]⟩
def z2m : XS := .one (.exit 0) zb6.xe
theorem zhl : z2m.OK := XS.one_ok (z0a zb6)
def z2o : Shp := ⟨35, 1, [(0, .pt 0 r0 []), (16, .d c2), (17, .d (.int .i64)), (18, .d (.int .i64))], [.var 71 (.ag [.wn 1 c1, .d c2, .d (.int .i64), .d c3, .d (.int .i64), .d .bool]), .row 86 c1]⟩
abbrev z7v := (List T0) × Int × Int × (List T0) × Int × T1 × Int × Bool × (List (List Int))
abbrev zbj := ((List T0) × Int × T1 × Int × Bool × (List (List Int)))
def z2l (t16 : List T0) (t17 : Int) (t18 : Int) (d : List T0) (d2 : Int) (d3 : T1) (d4 : Int) (d5 : Bool) (d6 : List (List Int)) : Option (z7v ⊕ zbj) :=
 bif ltI t18 t17 then
 (idxI t16 t18).bind fun x =>
 bif inI x.1 (List.length d6) then
 (d6[x.1.toNat]?).bind fun _x =>
 bif Nat.beq (List.length d6) (List.length (d6.set x.1.toNat x.2)) then
 some (.inl (t16, t17, W64 (t18 + 1), d, d2, d3, d4, d5, d6.set x.1.toNat x.2))
 else none
 else none
 else
 bif Nat.beq (List.length d6) (List.length d6) then
 some (.inr (d, d2, d3, d4, d5, d6))
 else none
def z0v (s : z7v) : Option (z7v ⊕ zbj) := z2l s.1 s.2.1 s.2.2.1 s.2.2.2.1 s.2.2.2.2.1 s.2.2.2.2.2.1 s.2.2.2.2.2.2.1 s.2.2.2.2.2.2.2.1 s.2.2.2.2.2.2.2.2
theorem zhz : SoundD Try.prog (.loop (subC (bodyC Try.f55) [1, 1, 1, 0, 1, 0, 0])) (loopD z2o.xe z2m (loopC z0v)) :=
 z1f (S := z2o.xe) (X := z2m) zh5 (h := .no) (z0e [] (by kernel_rfl) trivial) (z0a z2o) zhl z0v (fun s => by kernel_rfl)
def zgz : Shp := ⟨1, 1, [(0, .d (.int .i64))], [.var 71 (.ag [.wn 1 c1, .d c2, .d (.int .i64), .d c3, .d (.int .i64), .d .bool]), .row 86 c1]⟩
def zjl : XS := .one .ret zgz.xe
theorem zs4 : zjl.OK := XS.one_ok (z0a zgz)
def z5p (d : List T0) (d2 : Int) (d3 : T1) (d4 : Int) (d5 : Bool) (d6 : List (List Int)) : Option ((Int × (List T0) × Int × T1 × Int × Bool × (List (List Int)))) :=
 winK d6 0 (List.length d6) fun w =>
 (z7h (w, d, d2, d3, d4, d5)).bind fun r =>
 bif r then
 bif Nat.beq (List.length d6) (List.length d6) then
 some (6, d, d2, d3, d4, d5, d6)
 else none
 else
 bif Nat.beq (List.length d6) (List.length d6) then
 (z6v d d2 d3 d4 d5 d6).bind fun r2 =>
 bif neI r2.1 0 then
 bif Nat.beq (List.length r2.2.2.2.2.2.2) (List.length r2.2.2.2.2.2.2) then
 some (r2.1, r2.2.1, r2.2.2.1, r2.2.2.2.1, r2.2.2.2.2.1, r2.2.2.2.2.2.1, r2.2.2.2.2.2.2)
 else none
 else
 z0f (List.length r2.2.1) (
 bif Nat.beq (List.length r2.2.2.2.2.2.2) (List.length r2.2.2.2.2.2.2) then
 (loopC z0v (r2.2.1, (List.length r2.2.1 : Nat), 0, r2.2.1, r2.2.2.1, r2.2.2.2.1, r2.2.2.2.2.1, r2.2.2.2.2.2.1, r2.2.2.2.2.2.2)).bind fun o =>
 bif Nat.beq (List.length o.2.2.2.2.2) (List.length o.2.2.2.2.2) then
 some (0, [], o.2.1, o.2.2.1, o.2.2.2.1, o.2.2.2.2.1, o.2.2.2.2.2)
 else none
 else none)
 else none
def zai : Sig := ⟨55, [.pt 0 r0 []], [.var 71 (.ag [.wn 1 c1, .d c2, .d (.int .i64), .d c3, .d (.int .i64), .d .bool]), .row 86 c1], 1, zjl⟩
def z9v (x : (List T0) × Int × T1 × Int × Bool × (List (List Int))) : Option ((Int × (List T0) × Int × T1 × Int × Bool × (List (List Int)))) := z5p x.1 x.2.1 x.2.2.1 x.2.2.2.1 x.2.2.2.2.1 x.2.2.2.2.2
theorem zcs : FnOK Try.prog zai z9v :=
 fn_ok zh5 (h := (.two .no (.two .no (.two .no (.two (.two .no (.over (loopD z2o.xe z2m (loopC z0v)))) .no))))) Try.func55 (z0e [.den (.loop (subC (bodyC Try.f55) [1, 1, 1, 0, 1, 0, 0])) (loopD z2o.xe z2m (loopC z0v))] (by kernel_rfl) ⟨zhz, trivial⟩) (by kernel_rfl) zs4 (fun x => by kernel_rfl)
def zxm : Env := ⟨[(entQ z4w z4k)], [(entP zeb zdt), (entP zai z9v)], []⟩
theorem zu1 : EnvsOK Try.prog zxm := ⟨z0d (z0j z6u) (z0l _), z0o (z1a zkr) (z0o (z1a zcs) (z0h _)), z0g _⟩
def zfp : Shp := ⟨34, 2, [(0, .pt 0 r6 []), (3, .pt 2 r7 []), (5, .d (.int .i64))], [.var 75 (.ag [.pt 1 r0 [], .d c4, .wn 3 (.int .u8), .d (.int .i64), .d .bool]), .var 71 (.ag [.wn 4 c1, .d c2, .d (.int .i64), .d c3, .d (.int .i64), .d .bool]), .var 73 (.d c4), .row 5 (.int .u8), .row 86 c1]⟩
def zbu : XS := .one .normal zfp.xe
theorem zpp : zbu.OK := XS.one_ok (z0a zfp)
def zi8 : Shp := ⟨1, 2, [(0, .d (.int .i64))], [.var 75 (.ag [.pt 1 r0 [], .d c4, .d (.sl (.int .u8)), .d (.int .i64), .d .bool]), .var 71 (.ag [.wn 2 c1, .d c2, .d (.int .i64), .d c3, .d (.int .i64), .d .bool]), .row 86 c1]⟩
def zkn : XS := .one .ret zi8.xe
theorem zsp : zkn.OK := XS.one_ok (z0a zi8)
def zbq (t : T2) (j : T2) (j2 : Int) (j3 : Bool) (j4 : List T0) (j5 : Int) (j6 : T1) (j7 : Int) (j8 : Bool) (j9 : List Int) (j10 : List (List Int)) : Option ((Int × T2 × (List Int) × Int × Bool × (List T0) × Int × T1 × Int × Bool × (List (List Int)))) :=
 (z2j t).bind fun r =>
 bif Nat.beq (List.length j10) (List.length j10) then
 (zac (W64 (Int.tmod t.1 2)) r j4 j5 j6 j7 j8 j10).bind fun r2 =>
 (show Option ((Int × T2 × Int × Bool × (List T0) × Int × T1 × Int × Bool × T2 × (List Int) × (List (List Int)))) from
 bif eqI r2.1 0 then
 bif Nat.beq (List.length r2.2.2.2.2.2.2) (List.length r2.2.2.2.2.2.2) then
 (z5p r2.2.1 r2.2.2.1 r2.2.2.2.1 r2.2.2.2.2.1 r2.2.2.2.2.2.1 r2.2.2.2.2.2.2).bind fun r3 =>
 bif Nat.beq (List.length j9) (List.length j9) then
 bif Nat.beq (List.length r3.2.2.2.2.2.2) (List.length r3.2.2.2.2.2.2) then
 some (r3.1, j, j2, j3, r3.2.1, r3.2.2.1, r3.2.2.2.1, r3.2.2.2.2.1, r3.2.2.2.2.2.1, t, j9, r3.2.2.2.2.2.2)
 else none
 else none
 else none
 else
 bif Nat.beq (List.length j9) (List.length j9) then
 bif Nat.beq (List.length r2.2.2.2.2.2.2) (List.length r2.2.2.2.2.2.2) then
 some (r2.1, j, j2, j3, r2.2.1, r2.2.2.1, r2.2.2.2.1, r2.2.2.2.2.1, r2.2.2.2.2.2.1, t, j9, r2.2.2.2.2.2.2)
 else none
 else none).bind fun j11 =>
 bif neI j11.1 0 then
 winK j11.2.2.2.2.2.2.2.2.2.2.1 0 (List.length j11.2.2.2.2.2.2.2.2.2.2.1) fun w =>
 bif Nat.beq (List.length j11.2.2.2.2.2.2.2.2.2.2.2) (List.length j11.2.2.2.2.2.2.2.2.2.2.2) then
 some (j11.1, j11.2.1, w, j11.2.2.1, true, j11.2.2.2.2.1, j11.2.2.2.2.2.1, j11.2.2.2.2.2.2.1, j11.2.2.2.2.2.2.2.1, j11.2.2.2.2.2.2.2.2.1, j11.2.2.2.2.2.2.2.2.2.2.2)
 else none
 else
 winK j11.2.2.2.2.2.2.2.2.2.2.1 0 (List.length j11.2.2.2.2.2.2.2.2.2.2.1) fun w2 =>
 bif Nat.beq (List.length j11.2.2.2.2.2.2.2.2.2.2.2) (List.length j11.2.2.2.2.2.2.2.2.2.2.2) then
 some (0, j11.2.2.2.2.2.2.2.2.2.1, w2, j11.2.2.1, j11.2.2.2.1, j11.2.2.2.2.1, j11.2.2.2.2.2.1, j11.2.2.2.2.2.2.1, j11.2.2.2.2.2.2.2.1, j11.2.2.2.2.2.2.2.2.1, j11.2.2.2.2.2.2.2.2.2.2.2)
 else none
 else none
def zkh : Sig := ⟨33, [.pt 0 r6 [], .d c4], [.var 75 (.ag [.pt 1 r0 [], .d c4, .wn 2 (.int .u8), .d (.int .i64), .d .bool]), .var 71 (.ag [.wn 3 c1, .d c2, .d (.int .i64), .d c3, .d (.int .i64), .d .bool]), .row 5 (.int .u8), .row 86 c1], 2, zkn⟩
def zj0 (x : T2 × T2 × Int × Bool × (List T0) × Int × T1 × Int × Bool × (List Int) × (List (List Int))) : Option ((Int × T2 × (List Int) × Int × Bool × (List T0) × Int × T1 × Int × Bool × (List (List Int)))) := zbq x.1 x.2.1 x.2.2.1 x.2.2.2.1 x.2.2.2.2.1 x.2.2.2.2.2.1 x.2.2.2.2.2.2.1 x.2.2.2.2.2.2.2.1 x.2.2.2.2.2.2.2.2.1 x.2.2.2.2.2.2.2.2.2.1 x.2.2.2.2.2.2.2.2.2.2
theorem zv8 : FnOK Try.prog zkh zj0 :=
 fn_ok zu1 (h := (.two .no (.two (.reg [] [10, 0, 1]) (.join (fun _ => zbu) .no .no)))) Try.func33 (z0e [.xs (fun _ => zbu)] (by kernel_rfl) ⟨(z1p zpp), trivial⟩) (by kernel_rfl) zsp (fun x => by kernel_rfl)
def zzy : Env := ⟨[(entQ z7f z5u)], [], []⟩
theorem zxz : EnvsOK Try.prog zzy := ⟨z0d (z0j z8i) (z0l _), z0h _, z0g _⟩
def zjs : Shp := ⟨1, 0, [(0, .d (.int .i64))], []⟩
def znb : XS := .one .ret zjs.xe
theorem zvx : znb.OK := XS.one_ok (z0a zjs)
def zat (j : T3) (j2 : T2) (j3 : List Int) (j4 : Int) (j5 : Bool) (side : Int) (i : Int) : Option ((Int)) :=
 (z5e j).bind fun r =>
 some (W64 ((W64 (2 + (W64 (side * r)))) + i))
def zfd : Sig := ⟨34, [.rf (.ag [.rf (.d c8), .d c4, .d (.sl (.int .u8)), .d (.int .i64), .d .bool]), .d (.int .i64), .d (.int .i64)], [], 0, znb⟩
def zeh (x : T3 × T2 × (List Int) × Int × Bool × Int × Int) : Option ((Int)) := zat x.1 x.2.1 x.2.2.1 x.2.2.2.1 x.2.2.2.2.1 x.2.2.2.2.2.1 x.2.2.2.2.2.2
theorem zmh : FnOK Try.prog zfd zeh :=
 fn_ok zxz (h := .no) Try.func34 (z0e [] (by kernel_rfl) trivial) (by kernel_rfl) zvx (fun x => by kernel_rfl)
def z1b3 : Env := ⟨[(entQ zfn ze8), (entQ z7f z5u), (entQ zpl zom), (entQ zfd zeh)], [(entP znh zme), (entP zkh zj0), (entP zoe zmw)], []⟩
theorem zk9 : EnvsOK Try.prog z1b3 := ⟨z0d (z0j zm3) (z0d (z0j z8i) (z0d (z0j zxa) (z0d (z0j zmh) (z0l _)))), z0o (z1a zyb) (z0o (z1a zv8) (z0o (z1a zus) (z0h _))), z0g _⟩
def zdp : Shp := ⟨138, 1, [(0, .pt 0 r0 []), (5, .pt 1 r6 [])], [.var 71 (.ag [.wn 2 c1, .d c2, .d (.int .i64), .d c3, .d (.int .i64), .d .bool]), .var 75 (.ag [.pt 0 r0 [], .d c4, .wn 3 (.int .u8), .d (.int .i64), .d .bool]), .row 86 c1, .row 5 (.int .u8)]⟩
def zdz : Shp := ⟨138, 1, [(2, .c .nilp), (3, .d c5), (4, .d (.int .i64))], [.var 71 (.ag [.wn 1 c1, .d c2, .d (.int .i64), .d c3, .d (.int .i64), .d .bool]), .row 86 c1]⟩
def z4t : XS := .or (.exit 0) zdp.xe (.one .ret zdz.xe)
theorem zns : z4t.OK := XS.or_ok (z0a zdp) (XS.one_ok (z0a zdz))
def z4x : Shp := ⟨138, 1, [(0, .pt 0 r0 []), (5, .pt 1 r6 []), (6, .d (.int .i64)), (26, .d (.int .i64))], [.var 71 (.ag [.wn 2 c1, .d c2, .d (.int .i64), .d c3, .d (.int .i64), .d .bool]), .var 75 (.ag [.pt 0 r0 [], .d c4, .wn 3 (.int .u8), .d (.int .i64), .d .bool]), .row 86 c1, .row 5 (.int .u8)]⟩
abbrev zap := Int × Int × (List T0) × Int × T1 × Int × Bool × T2 × Int × Bool × (List (List Int)) × (List Int)
abbrev zf0 := ((List T0) × Int × T1 × Int × Bool × T2 × Int × Bool × (List (List Int)) × (List Int)) ⊕ ((List (List Int)) × Int × (List T0) × Int × T1 × Int × Bool × (List (List Int)))
def z4u (room : Int) (t26 : Int) (d : List T0) (d2 : Int) (d3 : T1) (d4 : Int) (d5 : Bool) (j : T2) (j2 : Int) (j3 : Bool) (d6 : List (List Int)) (j4 : List Int) : Option (zap ⊕ zf0) :=
 bif ltI t26 2 then
 bif Nat.beq (List.length d6) (List.length d6) then
 (z8l t26 d d2 d3 d4 d5 d6).bind fun r =>
 bif neI r.1 0 then
 bif Nat.beq (List.length r.2.2.2.2.2.2.2) (List.length r.2.2.2.2.2.2.2) then
 some (.inr (.inr ([], r.1, r.2.1, r.2.2.1, r.2.2.2.1, r.2.2.2.2.1, r.2.2.2.2.2.1, r.2.2.2.2.2.2.2)))
 else none
 else
 winK r.2.2.2.2.2.2.1 0 (List.length r.2.2.2.2.2.2.1) fun w =>
 (zi7 w room).bind fun r2 =>
 bif ltI j.1 r2.1 then
 bif Nat.beq (List.length r.2.2.2.2.2.2.2) (List.length r.2.2.2.2.2.2.2) then
 bif Nat.beq (List.length j4) (List.length j4) then
 some (.inl (room, W64 (t26 + 1), r.2.1, r.2.2.1, r.2.2.2.1, r.2.2.2.2.1, r.2.2.2.2.2.1, r2, j2, j3, r.2.2.2.2.2.2.2, j4))
 else none
 else none
 else
 bif Nat.beq (List.length r.2.2.2.2.2.2.2) (List.length r.2.2.2.2.2.2.2) then
 bif Nat.beq (List.length j4) (List.length j4) then
 some (.inl (room, W64 (t26 + 1), r.2.1, r.2.2.1, r.2.2.2.1, r.2.2.2.2.1, r.2.2.2.2.2.1, j, j2, j3, r.2.2.2.2.2.2.2, j4))
 else none
 else none
 else none
 else
 bif Nat.beq (List.length d6) (List.length d6) then
 bif Nat.beq (List.length j4) (List.length j4) then
 some (.inr (.inl (d, d2, d3, d4, d5, j, j2, j3, d6, j4)))
 else none
 else none
def z1v (s : zap) : Option (zap ⊕ zf0) := z4u s.1 s.2.1 s.2.2.1 s.2.2.2.1 s.2.2.2.2.1 s.2.2.2.2.2.1 s.2.2.2.2.2.2.1 s.2.2.2.2.2.2.2.1 s.2.2.2.2.2.2.2.2.1 s.2.2.2.2.2.2.2.2.2.1 s.2.2.2.2.2.2.2.2.2.2.1 s.2.2.2.2.2.2.2.2.2.2.2
theorem zoj : SoundD Try.prog (.loop (subC (bodyC Try.f10) [1, 1, 1, 1, 0, 1, 0, 0])) (loopD z4x.xe z4t (loopC z1v)) :=
 z1f (S := z4x.xe) (X := z4t) zk9 (h := .no) (z0e [] (by kernel_rfl) trivial) (z0a z4x) zns z1v (fun s => by kernel_rfl)
def zc6 : Shp := ⟨138, 1, [(5, .pt 1 r6 [])], [.var 71 (.ag [.wn 2 c1, .d c2, .d (.int .i64), .d c3, .d (.int .i64), .d .bool]), .var 75 (.ag [.pt 0 r0 [], .d c4, .wn 3 (.int .u8), .d (.int .i64), .d .bool]), .row 86 c1, .row 5 (.int .u8)]⟩
def zbx : Shp := ⟨138, 1, [(2, .c .nilp), (3, .d c5), (4, .d (.int .i64))], [.var 71 (.ag [.wn 1 c1, .d c2, .d (.int .i64), .d c3, .d (.int .i64), .d .bool]), .row 86 c1]⟩
def z3d : XS := .or (.exit 2) zc6.xe (.one .ret zbx.xe)
theorem zjn : z3d.OK := XS.or_ok (z0a zc6) (XS.one_ok (z0a zbx))
def z3c : Shp := ⟨138, 1, [(0, .pt 0 r0 []), (5, .pt 1 r6 []), (12, .d (.int .i64))], [.var 71 (.ag [.wn 2 c1, .d c2, .d (.int .i64), .d c3, .d (.int .i64), .d .bool]), .var 75 (.ag [.pt 0 r0 [], .d c4, .wn 3 (.int .u8), .d (.int .i64), .d .bool]), .row 86 c1, .row 5 (.int .u8)]⟩
abbrev z8x := Int × (List T0) × Int × T1 × Int × Bool × T2 × Int × Bool × (List (List Int)) × (List Int)
abbrev zcy := ((List T0) × Int × T1 × Int × Bool × T2 × Int × Bool × (List (List Int)) × (List Int)) ⊕ ((List (List Int)) × Int × (List T0) × Int × T1 × Int × Bool × (List (List Int)))
def z3b (i : Int) (d : List T0) (d2 : Int) (d3 : T1) (d4 : Int) (d5 : Bool) (j : T2) (j2 : Int) (j3 : Bool) (d6 : List (List Int)) (j4 : List Int) : Option (z8x ⊕ zcy) :=
 bif ltI (W64 (i * 256)) j.2.2 then
 winK d6 0 (List.length d6) fun w =>
 winK j4 0 (List.length j4) fun w2 =>
 (zat (w, d, d2, d3, d4, d5) j w2 j2 j3 j.2.1 i).bind fun r =>
 bif Nat.beq (List.length d6) (List.length d6) then
 (z8l r d d2 d3 d4 d5 d6).bind fun r2 =>
 bif neI r2.1 0 then
 bif Nat.beq (List.length r2.2.2.2.2.2.2.2) (List.length r2.2.2.2.2.2.2.2) then
 some (.inr (.inr ([], r2.1, r2.2.1, r2.2.2.1, r2.2.2.2.1, r2.2.2.2.2.1, r2.2.2.2.2.2.1, r2.2.2.2.2.2.2.2)))
 else none
 else
 bif Nat.beq (List.length j4) (List.length j4) then
 winK r2.2.2.2.2.2.2.1 0 (List.length r2.2.2.2.2.2.2.1) fun w3 =>
 appG (List.length j4) (List.length w3) 1 fun _ =>
 bif Nat.beq (List.length r2.2.2.2.2.2.2.2) (List.length r2.2.2.2.2.2.2.2) then
 bif Nat.beq (List.length (j4 ++ w3)) (List.length (j4 ++ w3)) then
 some (.inl (W64 (i + 1), r2.2.1, r2.2.2.1, r2.2.2.2.1, r2.2.2.2.2.1, r2.2.2.2.2.2.1, j, j2, j3, r2.2.2.2.2.2.2.2, j4 ++ w3))
 else none
 else none
 else none
 else none
 else
 bif Nat.beq (List.length d6) (List.length d6) then
 bif Nat.beq (List.length j4) (List.length j4) then
 some (.inr (.inl (d, d2, d3, d4, d5, j, j2, j3, d6, j4)))
 else none
 else none
def z2c (s : z8x) : Option (z8x ⊕ zcy) := z3b s.1 s.2.1 s.2.2.1 s.2.2.2.1 s.2.2.2.2.1 s.2.2.2.2.2.1 s.2.2.2.2.2.2.1 s.2.2.2.2.2.2.2.1 s.2.2.2.2.2.2.2.2.1 s.2.2.2.2.2.2.2.2.2.1 s.2.2.2.2.2.2.2.2.2.2
theorem zkt : SoundD Try.prog (.loop (subC (bodyC Try.f10) [1, 1, 1, 1, 1, 1, 0, 1, 0, 0])) (loopD z3c.xe z3d (loopC z2c)) :=
 z1f (S := z3c.xe) (X := z3d) zk9 (h := .no) (z0e [] (by kernel_rfl) trivial) (z0a z3c) zjn z2c (fun s => by kernel_rfl)
def ztn : Shp := ⟨1, 1, [(0, .tu [.c .nilp, .d c5, .d (.int .i64)])], [.var 71 (.ag [.wn 1 c1, .d c2, .d (.int .i64), .d c3, .d (.int .i64), .d .bool]), .row 86 c1]⟩
def zsj : Shp := ⟨1, 1, [(0, .tu [.pt 1 r6 [], .wn 2 (.sl (.int .u8)), .d (.int .i64)])], [.var 71 (.ag [.wn 3 c1, .d c2, .d (.int .i64), .d c3, .d (.int .i64), .d .bool]), .var 75 (.ag [.pt 0 r0 [], .d c4, .d (.sl (.int .u8)), .d (.int .i64), .d .bool]), .row 34 (.sl (.int .u8)), .row 86 c1]⟩
def zwh : XS := .or .ret ztn.xe (.one .ret zsj.xe)
theorem z15r : zwh.OK := XS.or_ok (z0a ztn) (XS.one_ok (z0a zsj))
def z2u (d : List T0) (d2 : Int) (d3 : T1) (d4 : Int) (d5 : Bool) (d6 : List (List Int)) : Option (((List (List Int)) × Int × (List T0) × Int × T1 × Int × Bool × (List (List Int))) ⊕ (Int × (List T0) × Int × T1 × Int × Bool × T2 × (List Int) × Int × Bool × (List (List Int)) × (List (List Int)))) :=
 winK d6 0 (List.length d6) fun w =>
 (z8h (w, d, d2, d3, d4, d5)).bind fun r =>
 bif ltI r 6 then
 bif Nat.beq (List.length d6) (List.length d6) then
 some (.inl ([], 1, d, d2, d3, d4, d5, d6))
 else none
 else
 winK d6 0 (List.length d6) fun w2 =>
 (z5e (w2, d, d2, d3, d4, d5)).bind fun r2 =>
 bif Nat.beq (List.length d6) (List.length d6) then
 bif Nat.beq 0 (List.length ([] : List Int)) then
 (loopC z1v (W64 (r2 * 256), 0, d, d2, d3, d4, d5, (0, 0, 0), 0, false, d6, ([] : List Int))).bind fun o =>
 Sum.elim (fun y =>
 bif eqI y.2.2.2.2.2.1.1 0 then
 bif Nat.beq (List.length y.2.2.2.2.2.2.2.2.2) (List.length y.2.2.2.2.2.2.2.2.2) then
 bif Nat.beq (List.length y.2.2.2.2.2.2.2.2.1) (List.length y.2.2.2.2.2.2.2.2.1) then
 (zbq (1, 0, 0) y.2.2.2.2.2.1 y.2.2.2.2.2.2.1 y.2.2.2.2.2.2.2.1 y.1 y.2.1 y.2.2.1 y.2.2.2.1 y.2.2.2.2.1 y.2.2.2.2.2.2.2.2.2 y.2.2.2.2.2.2.2.2.1).bind fun r3 =>
 bif neI r3.1 0 then
 bif Nat.beq (List.length r3.2.2.2.2.2.2.2.2.2.2) (List.length r3.2.2.2.2.2.2.2.2.2.2) then
 some (.inl ([], r3.1, r3.2.2.2.2.2.1, r3.2.2.2.2.2.2.1, r3.2.2.2.2.2.2.2.1, r3.2.2.2.2.2.2.2.2.1, r3.2.2.2.2.2.2.2.2.2.1, r3.2.2.2.2.2.2.2.2.2.2))
 else none
 else
 bif Nat.beq 0 (List.length ([] : List (List Int))) then
 bif Nat.beq (List.length r3.2.2.2.2.2.2.2.2.2.2) (List.length r3.2.2.2.2.2.2.2.2.2.2) then
 some (.inr (0, r3.2.2.2.2.2.1, r3.2.2.2.2.2.2.1, r3.2.2.2.2.2.2.2.1, r3.2.2.2.2.2.2.2.2.1, r3.2.2.2.2.2.2.2.2.2.1, r3.2.1, r3.2.2.1, r3.2.2.2.1, r3.2.2.2.2.1, ([] : List (List Int)), r3.2.2.2.2.2.2.2.2.2.2))
 else none
 else none
 else none
 else none
 else
 bif Nat.beq (List.length y.2.2.2.2.2.2.2.2.1) (List.length y.2.2.2.2.2.2.2.2.1) then
 bif Nat.beq (List.length y.2.2.2.2.2.2.2.2.2) (List.length y.2.2.2.2.2.2.2.2.2) then
 (loopC z2c (0, y.1, y.2.1, y.2.2.1, y.2.2.2.1, y.2.2.2.2.1, y.2.2.2.2.2.1, y.2.2.2.2.2.2.1, y.2.2.2.2.2.2.2.1, y.2.2.2.2.2.2.2.2.1, y.2.2.2.2.2.2.2.2.2)).bind fun o2 =>
 Sum.elim (fun y3 =>
 bif subOk 0 y3.2.2.2.2.2.1.2.2 (List.length y3.2.2.2.2.2.2.2.2.2) && eqI y3.2.2.2.2.2.1.2.2 y3.2.2.2.2.2.1.2.2 then
 (zg5 (List.replicate y3.2.2.2.2.2.1.2.2.toNat true) y3.2.2.2.2.2.2.2.2.2).bind fun r4 =>
 bif neI r4.1 0 then
 bif Nat.beq (List.length y3.2.2.2.2.2.2.2.2.1) (List.length y3.2.2.2.2.2.2.2.2.1) then
 some (.inl ([], r4.1, y3.1, y3.2.1, y3.2.2.1, y3.2.2.2.1, y3.2.2.2.2.1, y3.2.2.2.2.2.2.2.2.1))
 else none
 else
 z0f (List.length r4.2.2) (
 winK r4.2.1 0 y3.2.2.2.2.2.1.2.2.toNat fun w3 =>
 bif Nat.beq (List.length r4.2.2) (List.length r4.2.2) then
 bif Nat.beq (List.length y3.2.2.2.2.2.2.2.2.1) (List.length y3.2.2.2.2.2.2.2.2.1) then
 some (.inr (0, y3.1, y3.2.1, y3.2.2.1, y3.2.2.2.1, y3.2.2.2.2.1, y3.2.2.2.2.2.1, w3, (List.length r4.2.2 : Nat), y3.2.2.2.2.2.2.2.1, r4.2.2, y3.2.2.2.2.2.2.2.2.1))
 else none
 else none)
 else none) (fun y4 =>
 bif Nat.beq (List.length y4.2.2.2.2.2.2.2) (List.length y4.2.2.2.2.2.2.2) then
 some (.inl (y4.1, y4.2.1, y4.2.2.1, y4.2.2.2.1, y4.2.2.2.2.1, y4.2.2.2.2.2.1, y4.2.2.2.2.2.2.1, y4.2.2.2.2.2.2.2))
 else none) o2
 else none
 else none) (fun y2 =>
 bif Nat.beq (List.length y2.2.2.2.2.2.2.2) (List.length y2.2.2.2.2.2.2.2) then
 some (.inl (y2.1, y2.2.1, y2.2.2.1, y2.2.2.2.1, y2.2.2.2.2.1, y2.2.2.2.2.2.1, y2.2.2.2.2.2.2.1, y2.2.2.2.2.2.2.2))
 else none) o
 else none
 else none
def zof : Sig := ⟨10, [.pt 0 r0 []], [.var 71 (.ag [.wn 1 c1, .d c2, .d (.int .i64), .d c3, .d (.int .i64), .d .bool]), .row 86 c1], 1, zwh⟩
def zn0 (x : (List T0) × Int × T1 × Int × Bool × (List (List Int))) : Option (((List (List Int)) × Int × (List T0) × Int × T1 × Int × Bool × (List (List Int))) ⊕ (Int × (List T0) × Int × T1 × Int × Bool × T2 × (List Int) × Int × Bool × (List (List Int)) × (List (List Int)))) := z2u x.1 x.2.1 x.2.2.1 x.2.2.2.1 x.2.2.2.2.1 x.2.2.2.2.2
theorem zv0 : FnOK Try.prog zof zn0 :=
 fn_ok zk9 (h := (.two .no (.two .no (.two .no (.two .no (.two (.two .no (.over (loopD z4x.xe z4t (loopC z1v)))) (.two .no (.two (.two .no (.over (loopD z3c.xe z3d (loopC z2c)))) .no)))))))) Try.func10 (z0e [.den (.loop (subC (bodyC Try.f10) [1, 1, 1, 1, 0, 1, 0, 0])) (loopD z4x.xe z4t (loopC z1v)), .den (.loop (subC (bodyC Try.f10) [1, 1, 1, 1, 1, 1, 0, 1, 0, 0])) (loopD z3c.xe z3d (loopC z2c))] (by kernel_rfl) ⟨zoj, zkt, trivial⟩) (by kernel_rfl) z15r (fun x => by kernel_rfl)
def ztx : Env := ⟨[], [], []⟩
theorem zrz : EnvsOK Try.prog ztx := ⟨z0l _, z0h _, z0g _⟩
def zgs : Shp := ⟨1, 0, [(0, .d .bool)], []⟩
def zi0 : XS := .one .ret zgs.xe
theorem zqu : zi0.OK := XS.one_ok (z0a zgs)
def z7z (j : T3) (j2 : T2) (j3 : List Int) (j4 : Int) (j5 : Bool) : Option ((Bool)) :=
 some j5
def zcw : Sig := ⟨15, [.rf (.ag [.rf (.d c8), .d c4, .d (.sl (.int .u8)), .d (.int .i64), .d .bool])], [], 0, zi0⟩
def zc7 (x : T3 × T2 × (List Int) × Int × Bool) : Option ((Bool)) := z7z x.1 x.2.1 x.2.2.1 x.2.2.2.1 x.2.2.2.2
theorem zh4 : FnOK Try.prog zcw zc7 :=
 fn_ok zrz (h := .no) Try.func15 (z0e [] (by kernel_rfl) trivial) (by kernel_rfl) zqu (fun x => by kernel_rfl)
def zyg : Env := ⟨[(entQ zcl zbm), (entQ ztq zs1)], [(entP zam zah)], []⟩
theorem zw2 : EnvsOK Try.prog zyg := ⟨z0d (z0j zf9) (z0d (z0j z11b) (z0l _)), z0o (z1a zdb) (z0h _), z0g _⟩
def zj6 : Shp := ⟨1, 2, [(0, .d (.int .i64))], [.var 71 (.ag [.wn 2 c1, .d c2, .d (.int .i64), .d c3, .d (.int .i64), .d .bool]), .row 5 (.int .u8), .row 86 c1]⟩
def zmp : XS := .one .ret zj6.xe
theorem zu0 : zmp.OK := XS.one_ok (z0a zj6)
def zae (i : Int) (d : List T0) (d2 : Int) (d3 : T1) (d4 : Int) (d5 : Bool) (b : List Int) (d6 : List (List Int)) : Option ((Int × (List T0) × Int × T1 × Int × Bool × (List Int) × (List (List Int)))) :=
 winK d6 0 (List.length d6) fun w =>
 (z9a (w, d, d2, d3, d4, d5) i).bind fun r =>
 bif neI r 0 then
 bif Nat.beq (List.length d6) (List.length d6) then
 some (r, d, d2, d3, d4, d5, b, d6)
 else none
 else
 z0f (List.length b) (
 bif neI (List.length b : Nat) 256 then
 bif Nat.beq (List.length d6) (List.length d6) then
 some (1, d, d2, d3, d4, d5, b, d6)
 else none
 else
 winK b 0 (List.length b) fun w2 =>
 bif Nat.ble 256 (List.length (List.replicate 256 (0 : Int))) then
 (znz d).bind fun r2 =>
 appG (List.length r2) (List.length (([(i, cpyL (List.replicate 256 (0 : Int)) 0 256 w2)] : List T0))) 264 fun _ =>
 bif Nat.beq (List.length d6) (List.length d6) then
 (z6v (r2 ++ (([(i, cpyL (List.replicate 256 (0 : Int)) 0 256 w2)] : List T0))) d2 d3 d4 d5 d6).bind fun r3 =>
 bif Nat.beq (List.length r3.2.2.2.2.2.2) (List.length r3.2.2.2.2.2.2) then
 some (r3.1, r3.2.1, r3.2.2.1, r3.2.2.2.1, r3.2.2.2.2.1, r3.2.2.2.2.2.1, b, r3.2.2.2.2.2.2)
 else none
 else none
 else none)
def zmc : Sig := ⟨53, [.pt 0 r0 [], .d (.int .i64), .wn 1 (.int .u8)], [.var 71 (.ag [.wn 2 c1, .d c2, .d (.int .i64), .d c3, .d (.int .i64), .d .bool]), .row 5 (.int .u8), .row 86 c1], 2, zmp⟩
def zlk (x : Int × (List T0) × Int × T1 × Int × Bool × (List Int) × (List (List Int))) : Option ((Int × (List T0) × Int × T1 × Int × Bool × (List Int) × (List (List Int)))) := zae x.1 x.2.1 x.2.2.1 x.2.2.2.1 x.2.2.2.2.1 x.2.2.2.2.2.1 x.2.2.2.2.2.2.1 x.2.2.2.2.2.2.2
theorem zwt : FnOK Try.prog zmc zlk :=
 fn_ok zw2 (h := .no) Try.func53 (z0e [] (by kernel_rfl) trivial) (by kernel_rfl) zu0 (fun x => by kernel_rfl)
def zwo : Env := ⟨[(entQ z4w z4k)], [(entP zeb zdt), (entP zai z9v)], []⟩
theorem zuf : EnvsOK Try.prog zwo := ⟨z0d (z0j z6u) (z0l _), z0o (z1a zkr) (z0o (z1a zcs) (z0h _)), z0g _⟩
def zfr : Shp := ⟨34, 2, [(0, .pt 0 r6 []), (3, .pt 2 r7 []), (5, .d (.int .i64))], [.var 75 (.ag [.pt 1 r0 [], .d c4, .d (.sl (.int .u8)), .d (.int .i64), .d .bool]), .var 71 (.ag [.wn 3 c1, .d c2, .d (.int .i64), .d c3, .d (.int .i64), .d .bool]), .var 73 (.d c4), .row 86 c1]⟩
def zbv : XS := .one .normal zfr.xe
theorem zqo : zbv.OK := XS.one_ok (z0a zfr)
def zi5 : Shp := ⟨1, 2, [(0, .d (.int .i64))], [.var 75 (.ag [.pt 1 r0 [], .d c4, .d (.sl (.int .u8)), .d (.int .i64), .d .bool]), .var 71 (.ag [.wn 2 c1, .d c2, .d (.int .i64), .d c3, .d (.int .i64), .d .bool]), .row 86 c1]⟩
def zlf : XS := .one .ret zi5.xe
theorem zti : zlf.OK := XS.one_ok (z0a zi5)
def zbk (t : T2) (j : T2) (j2 : List Int) (j3 : Int) (j4 : Bool) (j5 : List T0) (j6 : Int) (j7 : T1) (j8 : Int) (j9 : Bool) (j10 : List (List Int)) : Option ((Int × T2 × (List Int) × Int × Bool × (List T0) × Int × T1 × Int × Bool × (List (List Int)))) :=
 (z2j t).bind fun r =>
 bif Nat.beq (List.length j10) (List.length j10) then
 (zac (W64 (Int.tmod t.1 2)) r j5 j6 j7 j8 j9 j10).bind fun r2 =>
 (show Option ((Int × T2 × (List Int) × Int × Bool × (List T0) × Int × T1 × Int × Bool × T2 × (List (List Int)))) from
 bif eqI r2.1 0 then
 bif Nat.beq (List.length r2.2.2.2.2.2.2) (List.length r2.2.2.2.2.2.2) then
 (z5p r2.2.1 r2.2.2.1 r2.2.2.2.1 r2.2.2.2.2.1 r2.2.2.2.2.2.1 r2.2.2.2.2.2.2).bind fun r3 =>
 bif Nat.beq (List.length r3.2.2.2.2.2.2) (List.length r3.2.2.2.2.2.2) then
 some (r3.1, j, j2, j3, j4, r3.2.1, r3.2.2.1, r3.2.2.2.1, r3.2.2.2.2.1, r3.2.2.2.2.2.1, t, r3.2.2.2.2.2.2)
 else none
 else none
 else
 bif Nat.beq (List.length r2.2.2.2.2.2.2) (List.length r2.2.2.2.2.2.2) then
 some (r2.1, j, j2, j3, j4, r2.2.1, r2.2.2.1, r2.2.2.2.1, r2.2.2.2.2.1, r2.2.2.2.2.2.1, t, r2.2.2.2.2.2.2)
 else none).bind fun j11 =>
 bif neI j11.1 0 then
 bif Nat.beq (List.length j11.2.2.2.2.2.2.2.2.2.2.2) (List.length j11.2.2.2.2.2.2.2.2.2.2.2) then
 some (j11.1, j11.2.1, j11.2.2.1, j11.2.2.2.1, true, j11.2.2.2.2.2.1, j11.2.2.2.2.2.2.1, j11.2.2.2.2.2.2.2.1, j11.2.2.2.2.2.2.2.2.1, j11.2.2.2.2.2.2.2.2.2.1, j11.2.2.2.2.2.2.2.2.2.2.2)
 else none
 else
 bif Nat.beq (List.length j11.2.2.2.2.2.2.2.2.2.2.2) (List.length j11.2.2.2.2.2.2.2.2.2.2.2) then
 some (0, j11.2.2.2.2.2.2.2.2.2.2.1, j11.2.2.1, j11.2.2.2.1, j11.2.2.2.2.1, j11.2.2.2.2.2.1, j11.2.2.2.2.2.2.1, j11.2.2.2.2.2.2.2.1, j11.2.2.2.2.2.2.2.2.1, j11.2.2.2.2.2.2.2.2.2.1, j11.2.2.2.2.2.2.2.2.2.2.2)
 else none
 else none
def zlb : Sig := ⟨33, [.pt 0 r6 [], .d c4], [.var 75 (.ag [.pt 1 r0 [], .d c4, .d (.sl (.int .u8)), .d (.int .i64), .d .bool]), .var 71 (.ag [.wn 2 c1, .d c2, .d (.int .i64), .d c3, .d (.int .i64), .d .bool]), .row 86 c1], 2, zlf⟩
def zis (x : T2 × T2 × (List Int) × Int × Bool × (List T0) × Int × T1 × Int × Bool × (List (List Int))) : Option ((Int × T2 × (List Int) × Int × Bool × (List T0) × Int × T1 × Int × Bool × (List (List Int)))) := zbk x.1 x.2.1 x.2.2.1 x.2.2.2.1 x.2.2.2.2.1 x.2.2.2.2.2.1 x.2.2.2.2.2.2.1 x.2.2.2.2.2.2.2.1 x.2.2.2.2.2.2.2.2.1 x.2.2.2.2.2.2.2.2.2.1 x.2.2.2.2.2.2.2.2.2.2
theorem zw1 : FnOK Try.prog zlb zis :=
 fn_ok zuf (h := (.two .no (.two (.reg [] [10, 0, 1]) (.join (fun _ => zbv) .no .no)))) Try.func33 (z0e [.xs (fun _ => zbv)] (by kernel_rfl) ⟨(z1p zqo), trivial⟩) (by kernel_rfl) zti (fun x => by kernel_rfl)
def zyl : Env := ⟨[(entQ z7f z5u), (entQ zfd zeh)], [(entP zmc zlk), (entP zai z9v), (entP zlb zis)], []⟩
theorem zj1 : EnvsOK Try.prog zyl := ⟨z0d (z0j z8i) (z0d (z0j zmh) (z0l _)), z0o (z1a zwt) (z0o (z1a zcs) (z0o (z1a zw1) (z0h _))), z0g _⟩
def zcf : Shp := ⟨99, 2, [(0, .pt 0 r6 []), (1, .d (.int .i64)), (3, .d (.sl (.int .u8))), (4, .d (.int .i64))], [.var 75 (.ag [.pt 1 r0 [], .d c4, .d (.sl (.int .u8)), .d (.int .i64), .d .bool]), .var 71 (.ag [.wn 2 c1, .d c2, .d (.int .i64), .d c3, .d (.int .i64), .d .bool]), .row 86 c1]⟩
def zcp : Shp := ⟨99, 2, [(10, .d (.int .i64))], [.var 75 (.ag [.pt 1 r0 [], .d c4, .d (.sl (.int .u8)), .d (.int .i64), .d .bool]), .var 71 (.ag [.wn 2 c1, .d c2, .d (.int .i64), .d c3, .d (.int .i64), .d .bool]), .row 86 c1]⟩
def z3r : XS := .or (.exit 0) zcf.xe (.one .ret zcp.xe)
theorem zln : z3r.OK := XS.or_ok (z0a zcf) (XS.one_ok (z0a zcp))
def z3q : Shp := ⟨99, 2, [(0, .pt 0 r6 []), (1, .d (.int .i64)), (3, .d (.sl (.int .u8))), (4, .d (.int .i64)), (11, .d (.int .i64))], [.var 75 (.ag [.pt 1 r0 [], .d c4, .d (.sl (.int .u8)), .d (.int .i64), .d .bool]), .var 71 (.ag [.wn 2 c1, .d c2, .d (.int .i64), .d c3, .d (.int .i64), .d .bool]), .row 86 c1]⟩
abbrev z9e := Int × (List Int) × Int × Int × T2 × (List Int) × Int × Bool × (List T0) × Int × T1 × Int × Bool × (List (List Int))
abbrev zdg := (Int × (List Int) × Int × T2 × (List Int) × Int × Bool × (List T0) × Int × T1 × Int × Bool × (List (List Int))) ⊕ (Int × T2 × (List Int) × Int × Bool × (List T0) × Int × T1 × Int × Bool × (List (List Int)))
def z3s (side : Int) (all : List Int) (count : Int) (i : Int) (j : T2) (j2 : List Int) (j3 : Int) (j4 : Bool) (j5 : List T0) (j6 : Int) (j7 : T1) (j8 : Int) (j9 : Bool) (j10 : List (List Int)) : Option (z9e ⊕ zdg) :=
 z0f (List.length all) (
 bif ltI (W64 (i * 256)) (List.length all : Nat) then
 bif subOk (W64 (i * 256)) (List.length all : Nat) (List.length all) then
 bif Nat.ble 256 (List.length (List.replicate 256 (0 : Int))) then
 winK j10 0 (List.length j10) fun w =>
 (zat (w, j5, j6, j7, j8, j9) j j2 j3 j4 side i).bind fun r =>
 bif Nat.beq 256 (List.length (cpyL (List.replicate 256 (0 : Int)) 0 256 (subL all (W64 (i * 256)) (List.length all : Nat)))) then
 bif Nat.beq (List.length j10) (List.length j10) then
 (zae r j5 j6 j7 j8 j9 (cpyL (List.replicate 256 (0 : Int)) 0 256 (subL all (W64 (i * 256)) (List.length all : Nat))) j10).bind fun r2 =>
 bif neI r2.1 0 then
 bif Nat.beq (List.length r2.2.2.2.2.2.2.2) (List.length r2.2.2.2.2.2.2.2) then
 some (.inr (.inr (r2.1, j, j2, j3, true, r2.2.1, r2.2.2.1, r2.2.2.2.1, r2.2.2.2.2.1, r2.2.2.2.2.2.1, r2.2.2.2.2.2.2.2)))
 else none
 else
 bif Nat.beq (List.length r2.2.2.2.2.2.2.2) (List.length r2.2.2.2.2.2.2.2) then
 some (.inl (side, all, count, W64 (i + 1), j, j2, j3, j4, r2.2.1, r2.2.2.1, r2.2.2.2.1, r2.2.2.2.2.1, r2.2.2.2.2.2.1, r2.2.2.2.2.2.2.2))
 else none
 else none
 else none
 else none
 else none
 else
 bif Nat.beq (List.length j10) (List.length j10) then
 some (.inr (.inl (side, all, count, j, j2, j3, j4, j5, j6, j7, j8, j9, j10)))
 else none)
def z2f (s : z9e) : Option (z9e ⊕ zdg) := z3s s.1 s.2.1 s.2.2.1 s.2.2.2.1 s.2.2.2.2.1 s.2.2.2.2.2.1 s.2.2.2.2.2.2.1 s.2.2.2.2.2.2.2.1 s.2.2.2.2.2.2.2.2.1 s.2.2.2.2.2.2.2.2.2.1 s.2.2.2.2.2.2.2.2.2.2.1 s.2.2.2.2.2.2.2.2.2.2.2.1 s.2.2.2.2.2.2.2.2.2.2.2.2.1 s.2.2.2.2.2.2.2.2.2.2.2.2.2
theorem zlw : SoundD Try.prog (.loop (subC (bodyC Try.f37) [1, 1, 0, 1, 0, 0])) (loopD z3q.xe z3r (loopC z2f)) :=
 z1f (S := z3q.xe) (X := z3r) zj1 (h := (.two .no (.two (.two .no (.two .no (.two (.reg [] [9, 0, 1]) .no))) .no))) (z0e [] (by kernel_rfl) trivial) (z0a z3q) zln z2f (fun s => by kernel_rfl)
def zjh : Shp := ⟨1, 2, [(0, .d (.int .i64))], [.var 75 (.ag [.pt 1 r0 [], .d c4, .d (.sl (.int .u8)), .d (.int .i64), .d .bool]), .var 71 (.ag [.wn 2 c1, .d c2, .d (.int .i64), .d c3, .d (.int .i64), .d .bool]), .row 86 c1]⟩
def zmt : XS := .one .ret zjh.xe
theorem zug : zmt.OK := XS.one_ok (z0a zjh)
def za9 (side : Int) (there : Int) (all : List Int) (count : Int) (j : T2) (j2 : List Int) (j3 : Int) (j4 : Bool) (j5 : List T0) (j6 : Int) (j7 : T1) (j8 : Int) (j9 : Bool) (j10 : List (List Int)) : Option ((Int × T2 × (List Int) × Int × Bool × (List T0) × Int × T1 × Int × Bool × (List (List Int)))) :=
 bif eqI j.1 4611686018427387904 then
 bif Nat.beq (List.length j10) (List.length j10) then
 some (5, j, j2, j3, j4, j5, j6, j7, j8, j9, j10)
 else none
 else
 z0f (List.length all) (
 winK j10 0 (List.length j10) fun w =>
 (z5e (w, j5, j6, j7, j8, j9)).bind fun r =>
 bif ltI (W64 (r * 256)) (List.length all : Nat) then
 bif Nat.beq (List.length j10) (List.length j10) then
 some (5, j, j2, j3, j4, j5, j6, j7, j8, j9, j10)
 else none
 else
 bif Nat.beq (List.length j10) (List.length j10) then
 (loopC z2f (side, all, count, W64 (Int.tdiv there 256), j, j2, j3, j4, j5, j6, j7, j8, j9, j10)).bind fun o =>
 Sum.elim (fun y =>
 bif Nat.beq (List.length y.2.2.2.2.2.2.2.2.2.2.2.2) (List.length y.2.2.2.2.2.2.2.2.2.2.2.2) then
 (z5p y.2.2.2.2.2.2.2.1 y.2.2.2.2.2.2.2.2.1 y.2.2.2.2.2.2.2.2.2.1 y.2.2.2.2.2.2.2.2.2.2.1 y.2.2.2.2.2.2.2.2.2.2.2.1 y.2.2.2.2.2.2.2.2.2.2.2.2).bind fun r2 =>
 bif neI r2.1 0 then
 bif Nat.beq (List.length r2.2.2.2.2.2.2) (List.length r2.2.2.2.2.2.2) then
 some (r2.1, y.2.2.2.1, y.2.2.2.2.1, y.2.2.2.2.2.1, true, r2.2.1, r2.2.2.1, r2.2.2.2.1, r2.2.2.2.2.1, r2.2.2.2.2.2.1, r2.2.2.2.2.2.2)
 else none
 else
 z0f (List.length y.2.1) (
 bif Nat.beq (List.length r2.2.2.2.2.2.2) (List.length r2.2.2.2.2.2.2) then
 (zbk (WU64 (y.2.2.2.1.1 + 1), y.1, (List.length y.2.1 : Nat)) y.2.2.2.1 y.2.2.2.2.1 y.2.2.2.2.2.1 y.2.2.2.2.2.2.1 r2.2.1 r2.2.2.1 r2.2.2.2.1 r2.2.2.2.2.1 r2.2.2.2.2.2.1 r2.2.2.2.2.2.2).bind fun r3 =>
 bif neI r3.1 0 then
 bif Nat.beq (List.length r3.2.2.2.2.2.2.2.2.2.2) (List.length r3.2.2.2.2.2.2.2.2.2.2) then
 some (r3.1, r3.2.1, r3.2.2.1, r3.2.2.2.1, r3.2.2.2.2.1, r3.2.2.2.2.2.1, r3.2.2.2.2.2.2.1, r3.2.2.2.2.2.2.2.1, r3.2.2.2.2.2.2.2.2.1, r3.2.2.2.2.2.2.2.2.2.1, r3.2.2.2.2.2.2.2.2.2.2)
 else none
 else
 bif Nat.beq (List.length r3.2.2.2.2.2.2.2.2.2.2) (List.length r3.2.2.2.2.2.2.2.2.2.2) then
 some (0, r3.2.1, y.2.1, y.2.2.1, r3.2.2.2.2.1, r3.2.2.2.2.2.1, r3.2.2.2.2.2.2.1, r3.2.2.2.2.2.2.2.1, r3.2.2.2.2.2.2.2.2.1, r3.2.2.2.2.2.2.2.2.2.1, r3.2.2.2.2.2.2.2.2.2.2)
 else none
 else none)
 else none) (fun y2 =>
 bif Nat.beq (List.length y2.2.2.2.2.2.2.2.2.2.2) (List.length y2.2.2.2.2.2.2.2.2.2.2) then
 some (y2.1, y2.2.1, y2.2.2.1, y2.2.2.2.1, y2.2.2.2.2.1, y2.2.2.2.2.2.1, y2.2.2.2.2.2.2.1, y2.2.2.2.2.2.2.2.1, y2.2.2.2.2.2.2.2.2.1, y2.2.2.2.2.2.2.2.2.2.1, y2.2.2.2.2.2.2.2.2.2.2)
 else none) o
 else none)
def zec : Sig := ⟨37, [.pt 0 r6 [], .d (.int .i64), .d (.int .i64), .d (.sl (.int .u8)), .d (.int .i64)], [.var 75 (.ag [.pt 1 r0 [], .d c4, .d (.sl (.int .u8)), .d (.int .i64), .d .bool]), .var 71 (.ag [.wn 2 c1, .d c2, .d (.int .i64), .d c3, .d (.int .i64), .d .bool]), .row 86 c1], 2, zmt⟩
def zdv (x : Int × Int × (List Int) × Int × T2 × (List Int) × Int × Bool × (List T0) × Int × T1 × Int × Bool × (List (List Int))) : Option ((Int × T2 × (List Int) × Int × Bool × (List T0) × Int × T1 × Int × Bool × (List (List Int)))) := za9 x.1 x.2.1 x.2.2.1 x.2.2.2.1 x.2.2.2.2.1 x.2.2.2.2.2.1 x.2.2.2.2.2.2.1 x.2.2.2.2.2.2.2.1 x.2.2.2.2.2.2.2.2.1 x.2.2.2.2.2.2.2.2.2.1 x.2.2.2.2.2.2.2.2.2.2.1 x.2.2.2.2.2.2.2.2.2.2.2.1 x.2.2.2.2.2.2.2.2.2.2.2.2.1 x.2.2.2.2.2.2.2.2.2.2.2.2.2
theorem zjx : FnOK Try.prog zec zdv :=
 fn_ok zj1 (h := (.two .no (.two .no (.two (.two .no (.over (loopD z3q.xe z3r (loopC z2f)))) .no)))) Try.func37 (z0e [.den (.loop (subC (bodyC Try.f37) [1, 1, 0, 1, 0, 0])) (loopD z3q.xe z3r (loopC z2f))] (by kernel_rfl) ⟨zlw, trivial⟩) (by kernel_rfl) zug (fun x => by kernel_rfl)
def zyp : Env := ⟨[(entQ zcw zc7), (entQ z7f z5u), (entQ zgg zep), (entQ zn4 zkx)], [(entP zec zdv)], []⟩
theorem zv4 : EnvsOK Try.prog zyp := ⟨z0d (z0j zh4) (z0d (z0j z8i) (z0d (z0j zjm) (z0d (z0j zt7) (z0l _)))), z0o (z1a zjx) (z0h _), z0g _⟩
def zja : Shp := ⟨1, 2, [(0, .d (.int .i64))], [.var 75 (.ag [.pt 1 r0 [], .d c4, .d (.sl (.int .u8)), .d (.int .i64), .d .bool]), .var 71 (.ag [.wn 2 c1, .d c2, .d (.int .i64), .d c3, .d (.int .i64), .d .bool]), .row 86 c1]⟩
def zmk : XS := .one .ret zja.xe
theorem zue : zmk.OK := XS.one_ok (z0a zja)
def z5i (records : List (List Int)) (j : T2) (j2 : List Int) (j3 : Int) (j4 : Bool) (j5 : List T0) (j6 : Int) (j7 : T1) (j8 : Int) (j9 : Bool) (j10 : List (List Int)) : Option ((Int × T2 × (List Int) × Int × Bool × (List T0) × Int × T1 × Int × Bool × (List (List Int)))) :=
 winK j10 0 (List.length j10) fun w =>
 (z7z (w, j5, j6, j7, j8, j9) j j2 j3 j4).bind fun r =>
 bif r then
 bif Nat.beq (List.length j10) (List.length j10) then
 some (3, j, j2, j3, j4, j5, j6, j7, j8, j9, j10)
 else none
 else
 winK j10 0 (List.length j10) fun w2 =>
 (z5e (w2, j5, j6, j7, j8, j9)).bind fun r2 =>
 (zdr records (W64 (r2 * 256))).bind fun r3 =>
 bif neI r3.2 0 then
 bif Nat.beq (List.length j10) (List.length j10) then
 some (r3.2, j, j2, j3, j4, j5, j6, j7, j8, j9, j10)
 else none
 else
 z0f (List.length records) (
 bif eqI (List.length records : Nat) 0 then
 bif Nat.beq (List.length j10) (List.length j10) then
 some (r3.2, j, j2, j3, j4, j5, j6, j7, j8, j9, j10)
 else none
 else
 z0f (List.length j2) (
 (zew ([j2, r3.1] : List (List Int))).bind fun r4 =>
 z0f (List.length records) (
 bif Nat.beq (List.length j10) (List.length j10) then
 (za9 j.2.1 (List.length j2 : Nat) r4 (W64 (j3 + (List.length records : Nat))) j j2 j3 j4 j5 j6 j7 j8 j9 j10).bind fun r5 =>
 bif Nat.beq (List.length r5.2.2.2.2.2.2.2.2.2.2) (List.length r5.2.2.2.2.2.2.2.2.2.2) then
 some (r5.1, r5.2.1, r5.2.2.1, r5.2.2.2.1, r5.2.2.2.2.1, r5.2.2.2.2.2.1, r5.2.2.2.2.2.2.1, r5.2.2.2.2.2.2.2.1, r5.2.2.2.2.2.2.2.2.1, r5.2.2.2.2.2.2.2.2.2.1, r5.2.2.2.2.2.2.2.2.2.2)
 else none
 else none)))
def ze7 : Sig := ⟨11, [.pt 0 r6 [], .d c5], [.var 75 (.ag [.pt 1 r0 [], .d c4, .d (.sl (.int .u8)), .d (.int .i64), .d .bool]), .var 71 (.ag [.wn 2 c1, .d c2, .d (.int .i64), .d c3, .d (.int .i64), .d .bool]), .row 86 c1], 2, zmk⟩
def zdm (x : (List (List Int)) × T2 × (List Int) × Int × Bool × (List T0) × Int × T1 × Int × Bool × (List (List Int))) : Option ((Int × T2 × (List Int) × Int × Bool × (List T0) × Int × T1 × Int × Bool × (List (List Int)))) := z5i x.1 x.2.1 x.2.2.1 x.2.2.2.1 x.2.2.2.2.1 x.2.2.2.2.2.1 x.2.2.2.2.2.2.1 x.2.2.2.2.2.2.2.1 x.2.2.2.2.2.2.2.2.1 x.2.2.2.2.2.2.2.2.2.1 x.2.2.2.2.2.2.2.2.2.2
theorem zku : FnOK Try.prog ze7 zdm :=
 fn_ok zv4 (h := (.two .no (.two .no (.two .no (.two .no (.two (.reg [] [25, 0, 1]) .no)))))) Try.func11 (z0e [] (by kernel_rfl) trivial) (by kernel_rfl) zue (fun x => by kernel_rfl)
def zxr : Env := ⟨[(entQ z7f z5u)], [], []⟩
theorem zui : EnvsOK Try.prog zxr := ⟨z0d (z0j z8i) (z0l _), z0h _, z0g _⟩
def zi2 : Shp := ⟨1, 0, [(0, .d (.int .i64))], []⟩
def zk5 : XS := .one .ret zi2.xe
theorem zsl : zk5.OK := XS.one_ok (z0a zi2)
def zbl (j : T3) (j2 : T2) (j3 : List Int) (j4 : Int) (j5 : Bool) : Option ((Int)) :=
 (z5e j).bind fun r =>
 z0f (List.length j3) (
 some (W64 ((W64 (r * 256)) - (List.length j3 : Nat))))
def zjt : Sig := ⟨13, [.rf (.ag [.rf (.d c8), .d c4, .d (.sl (.int .u8)), .d (.int .i64), .d .bool])], [], 0, zk5⟩
def zjc (x : T3 × T2 × (List Int) × Int × Bool) : Option ((Int)) := zbl x.1 x.2.1 x.2.2.1 x.2.2.2.1 x.2.2.2.2
theorem zv6 : FnOK Try.prog zjt zjc :=
 fn_ok zui (h := .no) Try.func13 (z0e [] (by kernel_rfl) trivial) (by kernel_rfl) zsl (fun x => by kernel_rfl)
def zym : Env := ⟨[], [], []⟩
theorem zv7 : EnvsOK Try.prog zym := ⟨z0l _, z0h _, z0g _⟩
def zj4 : Shp := ⟨1, 0, [(0, .d (.int .i64))], []⟩
def zm5 : XS := .one .ret zj4.xe
theorem zu7 : zm5.OK := XS.one_ok (z0a zj4)
def z7w (j : T3) (j2 : T2) (j3 : List Int) (j4 : Int) (j5 : Bool) : Option ((Int)) :=
 some j4
def zef : Sig := ⟨14, [.rf (.ag [.rf (.d c8), .d c4, .d (.sl (.int .u8)), .d (.int .i64), .d .bool])], [], 0, zm5⟩
def zdq (x : T3 × T2 × (List Int) × Int × Bool) : Option ((Int)) := z7w x.1 x.2.1 x.2.2.1 x.2.2.2.1 x.2.2.2.2
theorem zke : FnOK Try.prog zef zdq :=
 fn_ok zv7 (h := .no) Try.func14 (z0e [] (by kernel_rfl) trivial) (by kernel_rfl) zu7 (fun x => by kernel_rfl)
def z1gf : Env := ⟨[(entQ zny zms), (entQ zge zfl), (entQ zjt zjc), (entQ zef zdq)], [(entP zrn zq9), (entP zon zn6), (entP ze9 zdw), (entP zof zn0), (entP ze7 zdm)], []⟩
theorem z1bt : EnvsOK Try.prog z1gf := ⟨z0d (z0j zyu) (z0d (z0j znk) (z0d (z0j zv6) (z0d (z0j zke) (z0l _)))), z0o (z1a zze) (z0o (z1a zun) (z0o (z1a zkp) (z0o (z1a zv0) (z0o (z1a zku) (z0h _))))), z0g _⟩
def zxg : Shp := ⟨72, 0, [(1, .c .nilp)], []⟩
def zx6 : Shp := ⟨72, 0, [(1, .pt 0 r0 [])], [.var 71 (.ag [.wn 1 c1, .d c2, .d (.int .i64), .d c3, .d (.int .i64), .d .bool]), .row 86 c1]⟩
def zrc : XS := .or .normal zxg.xe (.one .normal zx6.xe)
theorem z19h : zrc.OK := XS.or_ok (z0a zxg) (XS.one_ok (z0a zx6))
def ztg : Shp := ⟨72, 0, [(1, .c .nilp), (3, .c .nilp), (4, .d c5), (5, .d (.int .i64))], []⟩
def zt9 : Shp := ⟨72, 0, [(1, .c .nilp), (3, .pt 0 r6 []), (4, .wn 1 (.sl (.int .u8))), (5, .d (.int .i64))], [.var 75 (.ag [.c .nilp, .d c4, .d (.sl (.int .u8)), .d (.int .i64), .d .bool]), .row 34 (.sl (.int .u8))]⟩
def zo8 : XS := .or .normal ztg.xe (.one .normal zt9.xe)
theorem z15h : zo8.OK := XS.or_ok (z0a ztg) (XS.one_ok (z0a zt9))
def zux : Shp := ⟨72, 0, [(1, .c .nilp)], []⟩
def znp : Shp := ⟨72, 0, [(3, .pt 0 r6 []), (4, .d c5), (5, .d (.int .i64))], [.var 75 (.ag [.c .nilp, .d c4, .d (.sl (.int .u8)), .d (.int .i64), .d .bool])]⟩
def zho : XS := .one .normal znp.xe
theorem zys : zho.OK := XS.one_ok (z0a znp)
def zp5 : Shp := ⟨72, 0, [(1, .c .nilp), (3, .pt 0 r6 [])], [.var 75 (.ag [.c .nilp, .d c4, .d (.sl (.int .u8)), .d (.int .i64), .d .bool])]⟩
def zpo : Shp := ⟨72, 0, [(1, .pt 0 r0 []), (3, .c .nilp), (4, .d c5), (5, .d (.int .i64))], [.var 71 (.ag [.wn 1 c1, .d c2, .d (.int .i64), .d c3, .d (.int .i64), .d .bool]), .row 86 c1]⟩
def zpu : Shp := ⟨72, 0, [(1, .pt 0 r0 []), (3, .pt 1 r6 []), (4, .wn 2 (.sl (.int .u8))), (5, .d (.int .i64))], [.var 71 (.ag [.wn 3 c1, .d c2, .d (.int .i64), .d c3, .d (.int .i64), .d .bool]), .var 75 (.ag [.pt 0 r0 [], .d c4, .d (.sl (.int .u8)), .d (.int .i64), .d .bool]), .row 34 (.sl (.int .u8)), .row 86 c1]⟩
def zkc : XS := .or .normal zpo.xe (.one .normal zpu.xe)
theorem z11y : zkc.OK := XS.or_ok (z0a zpo) (XS.one_ok (z0a zpu))
def zk8 : Shp := ⟨72, 0, [(3, .pt 0 r6 []), (4, .d c5), (5, .d (.int .i64))], [.var 75 (.ag [.pt 1 r0 [], .d c4, .d (.sl (.int .u8)), .d (.int .i64), .d .bool]), .var 71 (.ag [.wn 2 c1, .d c2, .d (.int .i64), .d c3, .d (.int .i64), .d .bool]), .row 86 c1]⟩
def zfe : XS := .one .normal zk8.xe
theorem zv2 : zfe.OK := XS.one_ok (z0a zk8)
def zzg : Shp := ⟨1, 0, [(0, .d .bool)], []⟩
def z15c : XS := .one .ret zzg.xe
theorem z1ao : z15c.OK := XS.one_ok (z0a zzg)
def zij  : Option ((Bool)) :=
 (show Option ((Unit) ⊕ ((List T0) × Int × T1 × Int × Bool × (List (List Int)))) from
 (zg7 6).bind fun r =>
 Sum.elim (fun y =>
 some (.inl ())) (fun y2 =>
 bif Nat.beq (List.length y2.2.2.2.2.2.2) (List.length y2.2.2.2.2.2.2) then
 some (.inr (y2.2.1, y2.2.2.1, y2.2.2.2.1, y2.2.2.2.2.1, y2.2.2.2.2.2.1, y2.2.2.2.2.2.2))
 else none) r).bind fun j =>
 Sum.elim (fun y3 =>
 (show Option (((List (List Int)) × Int) ⊕ (Int × T2 × (List Int) × Int × Bool × (List (List Int)))) from
 (za8).bind fun r2 =>
 Sum.elim (fun y5 =>
 some (.inl (y5.1, y5.2))) (fun y6 =>
 bif Nat.beq (List.length y6.2.2.2.2.2) (List.length y6.2.2.2.2.2) then
 some (.inr (y6.1, y6.2.1, y6.2.2.1, y6.2.2.2.1, y6.2.2.2.2.1, y6.2.2.2.2.2))
 else none) r2).bind fun j2 =>
 Sum.elim (fun y7 =>
 some false) (fun y8 =>
 z0f (List.length y8.2.2.2.2.2) (
 bif neI (List.length y8.2.2.2.2.2 : Nat) 0 then
 some false
 else
 bif neI y8.1 0 then
 some false
 else
 winK ([97, 98] : List Int) 0 (List.length ([97, 98] : List Int)) fun w =>
 (zgk ([w, []] : List (List Int)) y8.2.1 y8.2.2.1 y8.2.2.2.1 y8.2.2.2.2.1).bind fun r3 =>
 bif neI r3.1 0 then
 some false
 else
 (show Option (((List (List Int)) × Int × T2 × (List Int) × Int × Bool)) from
 (za8).bind fun r4 =>
 Sum.elim (fun y9 =>
 some (y9.1, y9.2, r3.2.1, r3.2.2.1, r3.2.2.2.1, r3.2.2.2.2)) (fun y10 =>
 winK y10.2.2.2.2.2 0 (List.length y10.2.2.2.2.2) fun w2 =>
 some (w2, y10.1, r3.2.1, r3.2.2.1, r3.2.2.2.1, r3.2.2.2.2)) r4).bind fun j3 =>
 bif eqI j3.2.1 0 then
 z0f (List.length j3.1) (
 bif eqI (List.length j3.1 : Nat) 2 then
 (idxI j3.1 0).bind fun x =>
 bif eqS x ([97, 98] : List Int) then
 (idxI j3.1 1).bind fun x2 =>
 z0f (List.length x2) (
 bif eqI (List.length x2 : Nat) 0 then
 (zql j3.2.2.1 j3.2.2.2.1 j3.2.2.2.2.1 j3.2.2.2.2.2).bind fun r5 =>
 bif eqI r5 500 then
 (ze2 j3.2.2.1 j3.2.2.2.1 j3.2.2.2.2.1 j3.2.2.2.2.2).bind fun r6 =>
 some (eqI r6 2)
 else
 some false
 else
 some false)
 else
 some false
 else
 some false)
 else
 some false)) j2) (fun y4 =>
 (show Option (((List (List Int)) × Int × (List T0) × Int × T1 × Int × Bool × (List (List Int))) ⊕ (Int × (List T0) × Int × T1 × Int × Bool × T2 × (List Int) × Int × Bool × (List (List Int)) × (List (List Int)))) from
 bif Nat.beq (List.length y4.2.2.2.2.2) (List.length y4.2.2.2.2.2) then
 (z2u y4.1 y4.2.1 y4.2.2.1 y4.2.2.2.1 y4.2.2.2.2.1 y4.2.2.2.2.2).bind fun r7 =>
 Sum.elim (fun y11 =>
 bif Nat.beq (List.length y11.2.2.2.2.2.2.2) (List.length y11.2.2.2.2.2.2.2) then
 some (.inl (y11.1, y11.2.1, y11.2.2.1, y11.2.2.2.1, y11.2.2.2.2.1, y11.2.2.2.2.2.1, y11.2.2.2.2.2.2.1, y11.2.2.2.2.2.2.2))
 else none) (fun y12 =>
 bif Nat.beq (List.length y12.2.2.2.2.2.2.2.2.2.2.1) (List.length y12.2.2.2.2.2.2.2.2.2.2.1) then
 bif Nat.beq (List.length y12.2.2.2.2.2.2.2.2.2.2.2) (List.length y12.2.2.2.2.2.2.2.2.2.2.2) then
 some (.inr (y12.1, y12.2.1, y12.2.2.1, y12.2.2.2.1, y12.2.2.2.2.1, y12.2.2.2.2.2.1, y12.2.2.2.2.2.2.1, y12.2.2.2.2.2.2.2.1, y12.2.2.2.2.2.2.2.2.1, y12.2.2.2.2.2.2.2.2.2.1, y12.2.2.2.2.2.2.2.2.2.2.1, y12.2.2.2.2.2.2.2.2.2.2.2))
 else none
 else none) r7
 else none).bind fun j4 =>
 Sum.elim (fun y13 =>
 some false) (fun y14 =>
 z0f (List.length y14.2.2.2.2.2.2.2.2.2.2.1) (
 bif neI (List.length y14.2.2.2.2.2.2.2.2.2.2.1 : Nat) 0 then
 some false
 else
 bif neI y14.1 0 then
 some false
 else
 winK ([97, 98] : List Int) 0 (List.length ([97, 98] : List Int)) fun w3 =>
 bif Nat.beq (List.length y14.2.2.2.2.2.2.2.2.2.2.2) (List.length y14.2.2.2.2.2.2.2.2.2.2.2) then
 (z5i ([w3, []] : List (List Int)) y14.2.2.2.2.2.2.1 y14.2.2.2.2.2.2.2.1 y14.2.2.2.2.2.2.2.2.1 y14.2.2.2.2.2.2.2.2.2.1 y14.2.1 y14.2.2.1 y14.2.2.2.1 y14.2.2.2.2.1 y14.2.2.2.2.2.1 y14.2.2.2.2.2.2.2.2.2.2.2).bind fun r8 =>
 bif neI r8.1 0 then
 some false
 else
 (show Option (((List (List Int)) × Int × T2 × (List Int) × Int × Bool × (List T0) × Int × T1 × Int × Bool × (List (List Int)))) from
 bif Nat.beq (List.length r8.2.2.2.2.2.2.2.2.2.2) (List.length r8.2.2.2.2.2.2.2.2.2.2) then
 (z2u r8.2.2.2.2.2.1 r8.2.2.2.2.2.2.1 r8.2.2.2.2.2.2.2.1 r8.2.2.2.2.2.2.2.2.1 r8.2.2.2.2.2.2.2.2.2.1 r8.2.2.2.2.2.2.2.2.2.2).bind fun r9 =>
 Sum.elim (fun y15 =>
 bif Nat.beq (List.length y15.2.2.2.2.2.2.2) (List.length y15.2.2.2.2.2.2.2) then
 some (y15.1, y15.2.1, r8.2.1, r8.2.2.1, r8.2.2.2.1, r8.2.2.2.2.1, y15.2.2.1, y15.2.2.2.1, y15.2.2.2.2.1, y15.2.2.2.2.2.1, y15.2.2.2.2.2.2.1, y15.2.2.2.2.2.2.2)
 else none) (fun y16 =>
 winK y16.2.2.2.2.2.2.2.2.2.2.1 0 (List.length y16.2.2.2.2.2.2.2.2.2.2.1) fun w4 =>
 bif Nat.beq (List.length y16.2.2.2.2.2.2.2.2.2.2.2) (List.length y16.2.2.2.2.2.2.2.2.2.2.2) then
 some (w4, y16.1, r8.2.1, r8.2.2.1, r8.2.2.2.1, r8.2.2.2.2.1, y16.2.1, y16.2.2.1, y16.2.2.2.1, y16.2.2.2.2.1, y16.2.2.2.2.2.1, y16.2.2.2.2.2.2.2.2.2.2.2)
 else none) r9
 else none).bind fun j5 =>
 bif eqI j5.2.1 0 then
 z0f (List.length j5.1) (
 bif eqI (List.length j5.1 : Nat) 2 then
 (idxI j5.1 0).bind fun x3 =>
 bif eqS x3 ([97, 98] : List Int) then
 (idxI j5.1 1).bind fun x4 =>
 z0f (List.length x4) (
 bif eqI (List.length x4 : Nat) 0 then
 winK j5.2.2.2.2.2.2.2.2.2.2.2 0 (List.length j5.2.2.2.2.2.2.2.2.2.2.2) fun w5 =>
 (zbl (w5, j5.2.2.2.2.2.2.1, j5.2.2.2.2.2.2.2.1, j5.2.2.2.2.2.2.2.2.1, j5.2.2.2.2.2.2.2.2.2.1, j5.2.2.2.2.2.2.2.2.2.2.1) j5.2.2.1 j5.2.2.2.1 j5.2.2.2.2.1 j5.2.2.2.2.2.1).bind fun r10 =>
 bif eqI r10 500 then
 winK j5.2.2.2.2.2.2.2.2.2.2.2 0 (List.length j5.2.2.2.2.2.2.2.2.2.2.2) fun w6 =>
 (z7w (w6, j5.2.2.2.2.2.2.1, j5.2.2.2.2.2.2.2.1, j5.2.2.2.2.2.2.2.2.1, j5.2.2.2.2.2.2.2.2.2.1, j5.2.2.2.2.2.2.2.2.2.2.1) j5.2.2.1 j5.2.2.2.1 j5.2.2.2.2.1 j5.2.2.2.2.2.1).bind fun r11 =>
 some (eqI r11 2)
 else
 some false
 else
 some false)
 else
 some false
 else
 some false)
 else
 some false
 else none)) j4) j
def z15b : Sig := ⟨8, [], [], 0, z15c⟩
def z10w (x : Unit) : Option ((Bool)) := zij 
theorem z1e0 : FnOK Try.prog z15b z10w :=
 fn_ok z1bt (h := (.two .no (.join (fun _ => zrc) .no (.join (altX zux.fit (fun _ => zo8) (fun _ => zkc)) .no (.two (.two (.reg [13, 2000015] []) .no) (.join (altX zp5.fit (fun _ => zho) (fun _ => zfe)) .no .no)))))) Try.func8 (z0e [.xs (fun _ => zrc), .xs (altX zux.fit (fun _ => zo8) (fun _ => zkc)), .xs (altX zp5.fit (fun _ => zho) (fun _ => zfe))] (by kernel_rfl) ⟨(z1p z19h), (zej (z1p z15h) (z1p z11y)), (zej (z1p zys) (z1p zv2)), trivial⟩) (by kernel_rfl) z1ao (fun x => by kernel_rfl)
def zu2 : Env := ⟨[], [], []⟩
theorem zs6 : EnvsOK Try.prog zu2 := ⟨z0l _, z0h _, z0g _⟩
def zgo : Shp := ⟨1, 0, [(0, .d .bool)], []⟩
def zif : XS := .one .ret zgo.xe
theorem zqx : zif.OK := XS.one_ok (z0a zgo)
def zdx  : Option ((Bool)) :=
 some true
def zcr : Sig := ⟨15, [.c .nilp], [], 0, zif⟩
def zc4 (x : Unit) : Option ((Bool)) := zdx 
theorem zh9 : FnOK Try.prog zcr zc4 :=
 fn_ok zs6 (h := .no) Try.func15 (z0e [] (by kernel_rfl) trivial) (by kernel_rfl) zqx (fun x => by kernel_rfl)
def zyc : Env := ⟨[], [], []⟩
theorem zvk : EnvsOK Try.prog zyc := ⟨z0l _, z0h _, z0g _⟩
def zj9 : Shp := ⟨1, 0, [(0, .d (.int .i64))], []⟩
def zmg : XS := .one .ret zj9.xe
theorem ztz : zmg.OK := XS.one_ok (z0a zj9)
def za6  : Option ((Int)) :=
 some 0
def zma : Sig := ⟨14, [.c .nilp], [], 0, zmg⟩
def zl3 (x : Unit) : Option ((Int)) := za6 
theorem zy7 : FnOK Try.prog zma zl3 :=
 fn_ok zvk (h := .no) Try.func14 (z0e [] (by kernel_rfl) trivial) (by kernel_rfl) ztz (fun x => by kernel_rfl)
def zyq : Env := ⟨[(entQ zcr zc4)], [], []⟩
theorem zvc : EnvsOK Try.prog zyq := ⟨z0d (z0j zh9) (z0l _), z0h _, z0g _⟩
def ziu : Shp := ⟨1, 0, [(0, .d (.int .i64))], []⟩
def zmi : XS := .one .ret ziu.xe
theorem zty : zmi.OK := XS.one_ok (z0a ziu)
def zgl (records : List (List Int)) : Option ((Int)) :=
 (zdx).bind fun r =>
 bif r then
 some 3
 else
 none
def zmr : Sig := ⟨11, [.c .nilp, .d c5], [], 0, zmi⟩
def zl6 (x : (List (List Int))) : Option ((Int)) := zgl x
theorem zy4 : FnOK Try.prog zmr zl6 :=
 fn_ok zvc (h := .no) Try.func11 (z0e [] (by kernel_rfl) trivial) (by kernel_rfl) zty (fun x => by kernel_rfl)
def zsy : Env := ⟨[(entQ zdn zd9), (entQ z8v z8c), (entQ zgg zep)], [(entP zee zdo)], []⟩
theorem zqt : EnvsOK Try.prog zsy := ⟨z0d (z0j zjk) (z0d (z0j zag) (z0d (z0j zjm) (z0l _))), z0o (z1a zk3) (z0h _), z0g _⟩
def zfw : Shp := ⟨1, 1, [(0, .d (.int .i64))], [.var 75 (.ag [.c .nilp, .d c4, .d (.sl (.int .u8)), .d (.int .i64), .d .bool])]⟩
def zgy : XS := .one .ret zfw.xe
theorem zqc : zgy.OK := XS.one_ok (z0a zfw)
def zit (records : List (List Int)) (j : T2) (j2 : List Int) (j3 : Int) (j4 : Bool) : Option ((Int × T2 × (List Int) × Int × Bool)) :=
 (zf6 j j2 j3 j4).bind fun r =>
 bif r then
 some (3, j, j2, j3, j4)
 else
 (zaw).bind fun r2 =>
 (zdr records (W64 (r2 * 256))).bind fun r3 =>
 bif neI r3.2 0 then
 some (r3.2, j, j2, j3, j4)
 else
 z0f (List.length records) (
 (zg9 (W64 (1 - j.2.1)) 0 r3.1 (List.length records : Nat) j j2 j3 j4).bind fun r4 =>
 some (r4.1, r4.2.1, r4.2.2.1, r4.2.2.2.1, r4.2.2.2.2))
def zh0 : Sig := ⟨12, [.pt 0 r6 [], .d c5], [.var 75 (.ag [.c .nilp, .d c4, .d (.sl (.int .u8)), .d (.int .i64), .d .bool])], 1, zgy⟩
def zgp (x : (List (List Int)) × T2 × (List Int) × Int × Bool) : Option ((Int × T2 × (List Int) × Int × Bool)) := zit x.1 x.2.1 x.2.2.1 x.2.2.2.1 x.2.2.2.2
theorem zrv : FnOK Try.prog zh0 zgp :=
 fn_ok zqt (h := .no) Try.func12 (z0e [] (by kernel_rfl) trivial) (by kernel_rfl) zqc (fun x => by kernel_rfl)
def zt4 : Env := ⟨[(entQ zcr zc4)], [], []⟩
theorem zqy : EnvsOK Try.prog zt4 := ⟨z0d (z0j zh9) (z0l _), z0h _, z0g _⟩
def zfy : Shp := ⟨1, 0, [(0, .d (.int .i64))], []⟩
def zh2 : XS := .one .ret zfy.xe
theorem zqf : zh2.OK := XS.one_ok (z0a zfy)
def zda (records : List (List Int)) : Option ((Int)) :=
 (zdx).bind fun r =>
 bif r then
 some 3
 else
 none
def zh3 : Sig := ⟨12, [.c .nilp, .d c5], [], 0, zh2⟩
def zgh (x : (List (List Int))) : Option ((Int)) := zda x
theorem zs3 : FnOK Try.prog zh3 zgh :=
 fn_ok zqy (h := .no) Try.func12 (z0e [] (by kernel_rfl) trivial) (by kernel_rfl) zqf (fun x => by kernel_rfl)
def zt8 : Env := ⟨[(entQ zcw zc7), (entQ z7f z5u), (entQ zgg zep)], [(entP zec zdv)], []⟩
theorem zqw : EnvsOK Try.prog zt8 := ⟨z0d (z0j zh4) (z0d (z0j z8i) (z0d (z0j zjm) (z0l _))), z0o (z1a zjx) (z0h _), z0g _⟩
def zfq : Shp := ⟨1, 2, [(0, .d (.int .i64))], [.var 75 (.ag [.pt 1 r0 [], .d c4, .d (.sl (.int .u8)), .d (.int .i64), .d .bool]), .var 71 (.ag [.wn 2 c1, .d c2, .d (.int .i64), .d c3, .d (.int .i64), .d .bool]), .row 86 c1]⟩
def zh7 : XS := .one .ret zfq.xe
theorem zq1 : zh7.OK := XS.one_ok (z0a zfq)
def z7k (records : List (List Int)) (j : T2) (j2 : List Int) (j3 : Int) (j4 : Bool) (j5 : List T0) (j6 : Int) (j7 : T1) (j8 : Int) (j9 : Bool) (j10 : List (List Int)) : Option ((Int × T2 × (List Int) × Int × Bool × (List T0) × Int × T1 × Int × Bool × (List (List Int)))) :=
 winK j10 0 (List.length j10) fun w =>
 (z7z (w, j5, j6, j7, j8, j9) j j2 j3 j4).bind fun r =>
 bif r then
 bif Nat.beq (List.length j10) (List.length j10) then
 some (3, j, j2, j3, j4, j5, j6, j7, j8, j9, j10)
 else none
 else
 winK j10 0 (List.length j10) fun w2 =>
 (z5e (w2, j5, j6, j7, j8, j9)).bind fun r2 =>
 (zdr records (W64 (r2 * 256))).bind fun r3 =>
 bif neI r3.2 0 then
 bif Nat.beq (List.length j10) (List.length j10) then
 some (r3.2, j, j2, j3, j4, j5, j6, j7, j8, j9, j10)
 else none
 else
 z0f (List.length records) (
 bif Nat.beq (List.length j10) (List.length j10) then
 (za9 (W64 (1 - j.2.1)) 0 r3.1 (List.length records : Nat) j j2 j3 j4 j5 j6 j7 j8 j9 j10).bind fun r4 =>
 bif Nat.beq (List.length r4.2.2.2.2.2.2.2.2.2.2) (List.length r4.2.2.2.2.2.2.2.2.2.2) then
 some (r4.1, r4.2.1, r4.2.2.1, r4.2.2.2.1, r4.2.2.2.2.1, r4.2.2.2.2.2.1, r4.2.2.2.2.2.2.1, r4.2.2.2.2.2.2.2.1, r4.2.2.2.2.2.2.2.2.1, r4.2.2.2.2.2.2.2.2.2.1, r4.2.2.2.2.2.2.2.2.2.2)
 else none
 else none)
def zh6 : Sig := ⟨12, [.pt 0 r6 [], .d c5], [.var 75 (.ag [.pt 1 r0 [], .d c4, .d (.sl (.int .u8)), .d (.int .i64), .d .bool]), .var 71 (.ag [.wn 2 c1, .d c2, .d (.int .i64), .d c3, .d (.int .i64), .d .bool]), .row 86 c1], 2, zh7⟩
def zgm (x : (List (List Int)) × T2 × (List Int) × Int × Bool × (List T0) × Int × T1 × Int × Bool × (List (List Int))) : Option ((Int × T2 × (List Int) × Int × Bool × (List T0) × Int × T1 × Int × Bool × (List (List Int)))) := z7k x.1 x.2.1 x.2.2.1 x.2.2.2.1 x.2.2.2.2.1 x.2.2.2.2.2.1 x.2.2.2.2.2.2.1 x.2.2.2.2.2.2.2.1 x.2.2.2.2.2.2.2.2.1 x.2.2.2.2.2.2.2.2.2.1 x.2.2.2.2.2.2.2.2.2.2
theorem zrx : FnOK Try.prog zh6 zgm :=
 fn_ok zqw (h := .no) Try.func12 (z0e [] (by kernel_rfl) trivial) (by kernel_rfl) zq1 (fun x => by kernel_rfl)
def z1ii : Env := ⟨[], [], []⟩
theorem zs7 : EnvsOK Try.prog z1ii := ⟨z0l _, z0h _, z0g _⟩
def za3 : Shp := ⟨49, 0, [(20, .d c11), (21, .d (.int .i64)), (22, .d (.int .i64)), (31, .pt 0 r12 [.fld 3]), (32, .pt 0 r12 [.fld 3, .fld 0]), (33, .d (.sl (.int .i64))), (34, .d (.int .i64)), (35, .d .bool)], [.var 44 (.d c13)]⟩
def za7 : Shp := ⟨49, 0, [(4, .d .bool)], []⟩
def z1y : XS := .or (.exit 2) za3.xe (.one .ret za7.xe)
theorem zg0 : z1y.OK := XS.or_ok (z0a za3) (XS.one_ok (z0a za7))
def z2b : Shp := ⟨49, 0, [(20, .d c11), (21, .d (.int .i64)), (22, .d (.int .i64)), (31, .pt 0 r12 [.fld 3]), (32, .pt 0 r12 [.fld 3, .fld 0]), (33, .d (.sl (.int .i64))), (34, .d (.int .i64)), (35, .d .bool), (38, .d c5), (39, .d (.int .i64)), (40, .d (.int .i64))], [.var 44 (.d c13)]⟩
abbrev z5t := (List T4) × Int × Int × (List Int) × Int × Bool × (List (List Int)) × Int × Int × T4
abbrev zan := ((List T4) × Int × Int × (List Int) × Int × Bool × T4) ⊕ (Bool)
def z2a (t20 : List T4) (t21 : Int) (t22 : Int) (t33 : List Int) (t34 : Int) (t35 : Bool) (t38 : List (List Int)) (t39 : Int) (t40 : Int) (t31 : T4) : Option (z5t ⊕ zan) :=
 bif ltI t40 t39 then
 (idxI t38 t40).bind fun x =>
 z0f (List.length x) (
 bif ltI 2000 (List.length x : Nat) then
 some (.inr (.inr false))
 else
 some (.inl (t20, t21, t22, t33, t34, t35, t38, t39, W64 (t40 + 1), t31)))
 else
 some (.inr (.inl (t20, t21, t22, t33, t34, t35, t31)))
def z1g (s : z5t) : Option (z5t ⊕ zan) := z2a s.1 s.2.1 s.2.2.1 s.2.2.2.1 s.2.2.2.2.1 s.2.2.2.2.2.1 s.2.2.2.2.2.2.1 s.2.2.2.2.2.2.2.1 s.2.2.2.2.2.2.2.2.1 s.2.2.2.2.2.2.2.2.2
theorem zgn : SoundD Try.prog (.loop (subC (bodyC Try.f18) [1, 1, 0, 1, 0, 0, 1, 1, 0, 0, 1, 1, 1, 0, 0])) (loopD z2b.xe z1y (loopC z1g)) :=
 z1f (S := z2b.xe) (X := z1y) zs7 (h := .no) (z0e [] (by kernel_rfl) trivial) (z0a z2b) zg0 z1g (fun s => by kernel_rfl)
def zlh : Shp := ⟨49, 0, [], []⟩
def zl5 : Shp := ⟨49, 0, [(4, .d .bool)], []⟩
def z9n : XS := .or (.exit 0) zlh.xe (.one .ret zl5.xe)
theorem zv3 : z9n.OK := XS.or_ok (z0a zlh) (XS.one_ok (z0a zl5))
def z9r : Shp := ⟨49, 0, [(20, .d c11), (21, .d (.int .i64)), (22, .d (.int .i64))], []⟩
abbrev zfi := (List T4) × Int × Int
abbrev zn8 := (Unit) ⊕ (Bool)
def z9h (t20 : List T4) (t21 : Int) (t22 : Int) : Option (zfi ⊕ zn8) :=
 bif ltI t22 t21 then
 (idxI t20 t22).bind fun x =>
 z0f (List.length x.2.1) (
 bif ltI 6 (List.length x.2.1 : Nat) then
 some (.inr (.inr false))
 else
 z0f (List.length x.2.2.2.1) (
 bif ltI 70 (List.length x.2.2.2.1 : Nat) then
 some (.inr (.inr false))
 else
 z0f (List.length x.2.1) (
 (loopC z1g (t20, t21, t22, x.2.2.2.1, (List.length x.2.2.2.1 : Nat), ltI 70 (List.length x.2.2.2.1 : Nat), x.2.1, (List.length x.2.1 : Nat), 0, x)).bind fun o =>
 Sum.elim (fun y =>
 some (.inl (y.1, y.2.1, W64 (y.2.2.1 + 1)))) (fun y2 =>
 some (.inr (.inr y2))) o)))
 else
 some (.inr (.inl ()))
def z9m (s : zfi) : Option (zfi ⊕ zn8) := z9h s.1 s.2.1 s.2.2
theorem zx8 : SoundD Try.prog (.loop (subC (bodyC Try.f18) [1, 1, 0, 1, 0, 0])) (loopD z9r.xe z9n (loopC z9m)) :=
 z1f (S := z9r.xe) (X := z9n) zs7 (h := (.two .no (.two .no (.two (.two .no (.two .no (.two .no (.over (loopD z2b.xe z1y (loopC z1g)))))) .no)))) (z0e [.den (.loop (subC (bodyC Try.f18) [1, 1, 0, 1, 0, 0, 1, 1, 0, 0, 1, 1, 1, 0, 0])) (loopD z2b.xe z1y (loopC z1g))] (by kernel_rfl) ⟨zgn, trivial⟩) (z0a z9r) zv3 z9m (fun s => by kernel_rfl)
def z12v : Shp := ⟨1, 0, [(0, .d .bool)], []⟩
def z16w : XS := .one .ret z12v.xe
theorem z1cx : z16w.OK := XS.one_ok (z0a z12v)
def zvi (sectors : Int) (script : List T4) : Option ((Bool)) :=
 bif ltI sectors 6 then
 some false
 else
 bif ltI 14 sectors then
 some false
 else
 z0f (List.length script) (
 bif ltI 30 (List.length script : Nat) then
 some false
 else
 z0f (List.length script) (
 (loopC z9m (script, (List.length script : Nat), 0)).bind fun o =>
 Sum.elim (fun y =>
 some true) (fun y2 =>
 some y2) o))
def z17f : Sig := ⟨18, [.d (.int .i64), .d c11], [], 0, z16w⟩
def z15f (x : Int × (List T4)) : Option ((Bool)) := zvi x.1 x.2
theorem z1g2 : FnOK Try.prog z17f z15f :=
 fn_ok zs7 (h := (.two .no (.two .no (.two (.two .no (.over (loopD z9r.xe z9n (loopC z9m)))) .no)))) Try.func18 (z0e [.den (.loop (subC (bodyC Try.f18) [1, 1, 0, 1, 0, 0])) (loopD z9r.xe z9n (loopC z9m))] (by kernel_rfl) ⟨zx8, trivial⟩) (by kernel_rfl) z1cx (fun x => by kernel_rfl)
def z1df : Env := ⟨[], [], []⟩
theorem zuy : EnvsOK Try.prog z1df := ⟨z0l _, z0h _, z0g _⟩
def zgx : Shp := ⟨19, 0, [(3, .wn 0 .str)], [.row 9 .str]⟩
def z7q : XS := .one (.exit 0) zgx.xe
theorem zrk : z7q.OK := XS.one_ok (z0a zgx)
def z7m : Shp := ⟨19, 0, [(3, .wn 0 .str), (6, .d c5), (7, .d (.int .i64)), (8, .d (.int .i64))], [.row 9 .str]⟩
abbrev zd5 := (List (List Int)) × Int × Int × (List (List Int))
abbrev zir := ((List (List Int)))
def z7o (t6 : List (List Int)) (t7 : Int) (t8 : Int) (out : List (List Int)) : Option (zd5 ⊕ zir) :=
 bif ltI t8 t7 then
 (idxI t6 t8).bind fun x =>
 bif Nat.beq (List.length out) (List.length out) then
 appG (List.length out) (List.length ([x] : List (List Int))) 16 fun _ =>
 bif Nat.beq (List.length (out ++ ([x] : List (List Int)))) (List.length (out ++ ([x] : List (List Int)))) then
 some (.inl (t6, t7, W64 (t8 + 1), out ++ ([x] : List (List Int))))
 else none
 else none
 else
 bif Nat.beq (List.length out) (List.length out) then
 some (.inr out)
 else none
def z5a (s : zd5) : Option (zd5 ⊕ zir) := z7o s.1 s.2.1 s.2.2.1 s.2.2.2
theorem zso : SoundD Try.prog (.loop (subC (bodyC Try.f19) [1, 1, 0, 1, 0, 0])) (loopD z7m.xe z7q (loopC z5a)) :=
 z1f (S := z7m.xe) (X := z7q) zuy (h := .no) (z0e [] (by kernel_rfl) trivial) (z0a z7m) zrk z5a (fun s => by kernel_rfl)
def zuq : Shp := ⟨1, 0, [(0, .wn 0 .str)], [.row 9 .str]⟩
def zz5 : XS := .one .ret zuq.xe
theorem z16s : zz5.OK := XS.one_ok (z0a zuq)
def z6q (l : List (List Int)) : Option (((List (List Int)))) :=
 z0f (List.length l) (
 bif Nat.beq 0 (List.length ([] : List (List Int))) then
 (loopC z5a (l, (List.length l : Nat), 0, ([] : List (List Int)))).bind fun o =>
 bif Nat.beq (List.length o) (List.length o) then
 some o
 else none
 else none)
def zzo : Sig := ⟨19, [.d c5], [], 0, zz5⟩
def zx7 (x : (List (List Int))) : Option (((List (List Int)))) := z6q x
theorem z1bn : FnOK Try.prog zzo zx7 :=
 fn_ok zuy (h := (.two .no (.two .no (.two (.two .no (.over (loopD z7m.xe z7q (loopC z5a)))) .no)))) Try.func19 (z0e [.den (.loop (subC (bodyC Try.f19) [1, 1, 0, 1, 0, 0])) (loopD z7m.xe z7q (loopC z5a))] (by kernel_rfl) ⟨zso, trivial⟩) (by kernel_rfl) z16s (fun x => by kernel_rfl)
def z1gp : Env := ⟨[], [], []⟩
theorem z12e : EnvsOK Try.prog z1gp := ⟨z0l _, z0h _, z0g _⟩
def zk2 : Shp := ⟨27, 0, [], []⟩
def zko : Shp := ⟨27, 0, [(4, .d .bool)], []⟩
def z9d : XS := .or (.exit 0) zk2.xe (.one .ret zko.xe)
theorem zvo : z9d.OK := XS.or_ok (z0a zk2) (XS.one_ok (z0a zko))
def z9o : Shp := ⟨27, 0, [(0, .d c5), (12, .d (.sl .str)), (13, .d (.int .i64)), (14, .d (.int .i64))], []⟩
abbrev zfc := (List (List Int)) × (List (List Int)) × Int × Int
abbrev znd := (Unit) ⊕ (Bool)
def z9l (a : List (List Int)) (t12 : List (List Int)) (t13 : Int) (t14 : Int) : Option (zfc ⊕ znd) :=
 bif ltI t14 t13 then
 (idxI t12 t14).bind fun x =>
 (idxI a t14).bind fun x2 =>
 bif !(eqS x2 x) then
 some (.inr (.inr false))
 else
 some (.inl (a, t12, t13, W64 (t14 + 1)))
 else
 some (.inr (.inl ()))
def z6w (s : zfc) : Option (zfc ⊕ znd) := z9l s.1 s.2.1 s.2.2.1 s.2.2.2
theorem zwp : SoundD Try.prog (.loop (subC (bodyC Try.f20) [1, 1, 0, 1, 0, 0])) (loopD z9o.xe z9d (loopC z6w)) :=
 z1f (S := z9o.xe) (X := z9d) z12e (h := .no) (z0e [] (by kernel_rfl) trivial) (z0a z9o) zvo z6w (fun s => by kernel_rfl)
def z12b : Shp := ⟨1, 0, [(0, .d .bool)], []⟩
def z17p : XS := .one .ret z12b.xe
theorem z1cw : z17p.OK := XS.one_ok (z0a z12b)
def z5v (a : List (List Int)) (b : List (List Int)) : Option ((Bool)) :=
 z0f (List.length a) (
 z0f (List.length b) (
 bif neI (List.length a : Nat) (List.length b : Nat) then
 some false
 else
 z0f (List.length b) (
 (loopC z6w (a, b, (List.length b : Nat), 0)).bind fun o =>
 Sum.elim (fun y =>
 some true) (fun y2 =>
 some y2) o)))
def z17a : Sig := ⟨20, [.d c5, .d (.sl .str)], [], 0, z17p⟩
def z14w (x : (List (List Int)) × (List (List Int))) : Option ((Bool)) := z5v x.1 x.2
theorem z1g9 : FnOK Try.prog z17a z14w :=
 fn_ok z12e (h := (.two .no (.two .no (.two (.two .no (.over (loopD z9o.xe z9d (loopC z6w)))) .no)))) Try.func20 (z0e [.den (.loop (subC (bodyC Try.f20) [1, 1, 0, 1, 0, 0])) (loopD z9o.xe z9d (loopC z6w))] (by kernel_rfl) ⟨zwp, trivial⟩) (by kernel_rfl) z1cw (fun x => by kernel_rfl)
def zyk : Env := ⟨[], [], []⟩
theorem zvs : EnvsOK Try.prog zyk := ⟨z0l _, z0h _, z0g _⟩
def ziv : Shp := ⟨1, 0, [(0, .d (.int .i64))], []⟩
def zmm : XS := .one .ret ziv.xe
theorem zts : zmm.OK := XS.one_ok (z0a ziv)
def zaf  : Option ((Int)) :=
 some 0
def zm4 : Sig := ⟨21, [.c .nilp], [], 0, zmm⟩
def zl4 (x : Unit) : Option ((Int)) := zaf 
theorem zwx : FnOK Try.prog zm4 zl4 :=
 fn_ok zvs (h := .no) Try.func21 (z0e [] (by kernel_rfl) trivial) (by kernel_rfl) zts (fun x => by kernel_rfl)
def zyn : Env := ⟨[], [], []⟩
theorem zvn : EnvsOK Try.prog zyn := ⟨z0l _, z0h _, z0g _⟩
def ziz : Shp := ⟨1, 0, [(0, .d (.int .i64))], []⟩
def zm6 : XS := .one .ret ziz.xe
theorem ztv : zm6.OK := XS.one_ok (z0a ziz)
def z5f (d : T3) : Option ((Int)) :=
 z0f (List.length d.2.1) (
 some (List.length d.2.1 : Nat))
def zmf : Sig := ⟨21, [.rf (.d c8)], [], 0, zm6⟩
def zjr (x : T3) : Option ((Int)) := z5f x
theorem zxc : FnOK Try.prog zmf zjr :=
 fn_ok zvn (h := .no) Try.func21 (z0e [] (by kernel_rfl) trivial) (by kernel_rfl) ztv (fun x => by kernel_rfl)
end Go.Proofs.Ytpfjfldagldgnaa