import Derived.Test.YtpfjfldagldgnaaTm21to25
import Derived.Test.YtpfjfldagldgnaaTm26to30
import Derived.Test.YtpfjfldagldgnaaTm31to34
import Derived.Test.YtpfjfldagldgnaaJrItoJrE
import Derived.Test.YtpfjfldagldgnaaProg
set_option maxRecDepth 100000
set_option linter.unusedVariables false
noncomputable section
namespace Go.Proofs.Ytpfjfldagldgnaa
open Go.Tm Go.Ab
abbrev T0 := Int × (List Int)
abbrev T1 := (List Int) × Int × Int
abbrev T2 := Int × Int × Int
abbrev T3 := (List (List Int)) × (List T0) × Int × T1 × Int × Bool
abbrev T4 := Int × (List (List Int)) × Int × T1
def r0 : Rt := .one (.st (.cons .leaf (.cons .leaf (.cons .leaf (.cons (.st (.cons .leaf (.cons .leaf (.one .leaf)))) (.cons .leaf (.one .leaf)))))))
def c1 : U := (.arr 256 (.int .u8))
def c2 : U := (.sl (.st (.cons (.int .i64) (.one (.arr 256 (.int .u8))))))
def c3 : U := (.st (.cons (.sl (.int .i64)) (.cons (.int .i64) (.one (.int .i64)))))
def c4 : U := (.st (.cons (.int .u64) (.cons (.int .i64) (.one (.int .i64)))))
def c5 : U := (.sl (.sl (.int .u8)))
def r6 : Rt := .one (.st (.cons .leaf (.cons (.st (.cons .leaf (.cons .leaf (.one .leaf)))) (.cons .leaf (.cons .leaf (.one .leaf))))))
def r7 : Rt := .one (.st (.cons .leaf (.cons .leaf (.one .leaf))))
def c8 : U := (.st (.cons (.sl (.arr 256 (.int .u8))) (.cons (.sl (.st (.cons (.int .i64) (.one (.arr 256 (.int .u8)))))) (.cons (.int .i64) (.cons (.st (.cons (.sl (.int .i64)) (.cons (.int .i64) (.one (.int .i64))))) (.cons (.int .i64) (.one .bool)))))))
def c9 : U := (.st (.cons (.int .i64) (.one (.arr 256 (.int .u8)))))
def r10 : Rt := .one (.st (.cons .leaf (.one (.arr 256 .leaf))))
def c11 : U := (.sl (.st (.cons (.int .i64) (.cons (.sl (.sl (.int .u8))) (.cons (.int .i64) (.one (.st (.cons (.sl (.int .i64)) (.cons (.int .i64) (.one (.int .i64)))))))))))
def r12 : Rt := .one (.st (.cons .leaf (.cons .leaf (.cons .leaf (.one (.st (.cons .leaf (.cons .leaf (.one .leaf)))))))))
def c13 : U := (.st (.cons (.int .i64) (.cons (.sl (.sl (.int .u8))) (.cons (.int .i64) (.one (.st (.cons (.sl (.int .i64)) (.cons (.int .i64) (.one (.int .i64))))))))))
def c16 : U := (.st (.cons (.sl .str) (.cons (.sl (.st (.cons (.int .i64) (.one .str)))) (.cons (.int .i64) (.cons (.st (.cons (.sl (.int .i64)) (.cons (.int .i64) (.one (.int .i64))))) (.cons (.int .i64) (.one .bool)))))))
def r17 : Rt := .one (.st (.cons .leaf (.one .leaf)))
def r19 : Rt := .one (.st (.cons (.st (.cons .leaf (.cons .leaf (.cons .leaf (.cons (.st (.cons .leaf (.cons .leaf (.one .leaf)))) (.cons .leaf (.one .leaf))))))) (.cons .leaf (.cons .leaf (.cons .leaf (.cons .leaf (.one .leaf)))))))
def r20 : Rt := .one (.st (.cons .leaf (.cons .leaf (.one (.st (.cons (.st (.cons .leaf (.cons .leaf (.cons .leaf (.cons (.st (.cons .leaf (.cons .leaf (.one .leaf)))) (.cons .leaf (.one .leaf))))))) (.cons .leaf (.cons .leaf (.cons .leaf (.cons .leaf (.one .leaf)))))))))))
def z1el : Env := ⟨[], [], []⟩
theorem z1ak : EnvsOK Try.prog z1el := ⟨z0j _, z0g _, z0f _⟩
def zwl : Shp := ⟨1, 0, [(0, .tu [.c .nilp, .d (.int .i64)])], []⟩
def zxh : Shp := ⟨1, 0, [(0, .tu [.pt 0 r0 [], .d (.int .i64)])], [.var 71 (.ag [.wn 1 c1, .d c2, .d (.int .i64), .d c3, .d (.int .i64), .d .bool]), .row 86 c1]⟩
def z10q : XS := .or .ret zwl.xe (.one .ret zxh.xe)
theorem z18y : z10q.OK := XS.or_ok (z0a zwl) (XS.one_ok (z0a zxh))
def zfk (sectors : Int) : Option ((Int) ⊕ (Int × (List T0) × Int × T1 × Int × Bool × (List (List Int)))) :=
 bif ltI sectors 1 then
 some (.inl 1)
 else
 bif ltI 4096 sectors then
 some (.inl 1)
 else
 makeG sectors 256 (
 bif Nat.beq sectors.toNat (List.length (List.replicate sectors.toNat (List.replicate 256 (0 : Int)))) then
 some (.inr (0, [], (-1), ([], 0, 0), 0, false, List.replicate sectors.toNat (List.replicate 256 (0 : Int))))
 else none)
def zrj : Sig := ⟨9, [.d (.int .i64)], [], 0, z10q⟩
def zp1 (x : Int) : Option ((Int) ⊕ (Int × (List T0) × Int × T1 × Int × Bool × (List (List Int)))) := zfk x
theorem zz8 : FnOK Try.prog zrj zp1 :=
 fn_ok z1ak (h := .no) Try.func9 (z0d [] (by kernel_rfl) trivial) (by kernel_rfl) z18y (fun x => by kernel_rfl)
def z13l : Env := ⟨[], [], []⟩
theorem zzt : EnvsOK Try.prog z13l := ⟨z0j _, z0g _, z0f _⟩
def zn5 : Shp := ⟨1, 0, [(0, .d (.int .i64))], []⟩
def zoy : XS := .one .ret zn5.xe
theorem zy9 : zoy.OK := XS.one_ok (z0a zn5)
def ziy  : Option ((Int)) :=
 some 0
def zgo : Sig := ⟨30, [.c .nilp], [], 0, zoy⟩
def zfs (x : Unit) : Option ((Int)) := ziy 
theorem zok : FnOK Try.prog zgo zfs :=
 fn_ok zzt (h := .no) Try.func30 (z0d [] (by kernel_rfl) trivial) (by kernel_rfl) zy9 (fun x => by kernel_rfl)
def z18v : Env := ⟨[(entQ zgo zfs)], [], []⟩
theorem z15h : EnvsOK Try.prog z18v := ⟨z0c (z0e zok) (z0j _), z0g _, z0f _⟩
def zqb : Shp := ⟨1, 0, [(0, .d (.int .i64))], []⟩
def zu8 : XS := .one .ret zqb.xe
theorem z12y : zu8.OK := XS.one_ok (z0a zqb)
def za0  : Option ((Int)) :=
 (ziy).bind fun r =>
 some (W64 (Int.tdiv (W64 (r - 2)) 2))
def z7k : Sig := ⟨31, [.c .nilp], [], 0, zu8⟩
def z6o (x : Unit) : Option ((Int)) := za0 
theorem z8p : FnOK Try.prog z7k z6o :=
 fn_ok z15h (h := .no) Try.func31 (z0d [] (by kernel_rfl) trivial) (by kernel_rfl) z12y (fun x => by kernel_rfl)
def z15m : Env := ⟨[], [], []⟩
theorem z11a : EnvsOK Try.prog z15m := ⟨z0j _, z0g _, z0f _⟩
def zo3 : Shp := ⟨1, 0, [(0, .d .bool)], []⟩
def zq9 : XS := .one .ret zo3.xe
theorem zzs : zq9.OK := XS.one_ok (z0a zo3)
def zml  : Option ((Bool)) :=
 some true
def zhr : Sig := ⟨39, [.c .nilp], [], 0, zq9⟩
def zgg (x : Unit) : Option ((Bool)) := zml 
theorem zpp : FnOK Try.prog zhr zgg :=
 fn_ok z11a (h := .no) Try.func39 (z0d [] (by kernel_rfl) trivial) (by kernel_rfl) zzs (fun x => by kernel_rfl)
def z14x : Env := ⟨[(entQ zhr zgg)], [], []⟩
theorem z11x : EnvsOK Try.prog z14x := ⟨z0c (z0e zpp) (z0j _), z0g _, z0f _⟩
def zo2 : Shp := ⟨1, 0, [(0, .d (.int .i64))], []⟩
def zqc : XS := .one .ret zo2.xe
theorem zzn : zqc.OK := XS.one_ok (z0a zo2)
def zm9 (i : Int) : Option ((Int)) :=
 (zml).bind fun r =>
 bif r then
 some 6
 else
 bif ltI i 0 then
 some 2
 else
 none
def zho : Sig := ⟨51, [.c .nilp, .d (.int .i64)], [], 0, zqc⟩
def zgj (x : Int) : Option ((Int)) := zm9 x
theorem zp8 : FnOK Try.prog zho zgj :=
 fn_ok z11x (h := .no) Try.func51 (z0d [] (by kernel_rfl) trivial) (by kernel_rfl) zzn (fun x => by kernel_rfl)
def z12v : Env := ⟨[(entQ zho zgj)], [], []⟩
theorem zzz : EnvsOK Try.prog z12v := ⟨z0c (z0e zp8) (z0j _), z0g _, z0f _⟩
def zn6 : Shp := ⟨1, 0, [(0, .tu [.d (.sl (.int .u8)), .d (.int .i64)])], []⟩
def zpb : XS := .one .ret zn6.xe
theorem zy7 : zpb.OK := XS.one_ok (z0a zn6)
def zj9 (i : Int) : Option (((List Int) × Int)) :=
 (zm9 i).bind fun r =>
 bif neI r 0 then
 some ([], r)
 else
 none
def zpf : Sig := ⟨28, [.c .nilp, .d (.int .i64)], [], 0, zpb⟩
def zoa (x : Int) : Option (((List Int) × Int)) := zj9 x
theorem z10h : FnOK Try.prog zpf zoa :=
 fn_ok zzz (h := .no) Try.func28 (z0d [] (by kernel_rfl) trivial) (by kernel_rfl) zy7 (fun x => by kernel_rfl)
def z1av : Env := ⟨[], [], []⟩
theorem zru : EnvsOK Try.prog z1av := ⟨z0j _, z0g _, z0f _⟩
def zfa : Shp := ⟨19, 0, [(3, .d (.int .u64))], []⟩
def z5c : XS := .one (.exit 0) zfa.xe
theorem zq0 : z5c.OK := XS.one_ok (z0a zfa)
def z5e : Shp := ⟨19, 0, [(3, .d (.int .u64)), (6, .d (.sl (.int .u8))), (7, .d (.int .i64)), (8, .d (.int .i64))], []⟩
abbrev zbp := Int × (List Int) × Int × Int
abbrev zh6 := (Int)
def z5k (n : Int) (t6 : List Int) (t7 : Int) (t8 : Int) : Option (zbp ⊕ zh6) :=
 bif ltI t8 t7 then
 (idxI t6 t8).bind fun x =>
 some (.inl (bitI .or .u64 (shI .shl .u64 n 8) (WU64 (x)), t6, t7, W64 (t8 + 1)))
 else
 some (.inr n)
def z3x (s : zbp) : Option (zbp ⊕ zh6) := z5k s.1 s.2.1 s.2.2.1 s.2.2.2
theorem zrh : SoundD Try.prog (.loop (subC (bodyC Try.f52) [1, 1, 0, 1, 0, 0])) (loopD z5e.xe z5c (loopC z3x)) :=
 z0y (S := z5e.xe) (X := z5c) zru (h := .no) (z0d [] (by kernel_rfl) trivial) (z0a z5e) zq0 z3x (fun s => by kernel_rfl)
def zs1 : Shp := ⟨1, 0, [(0, .d (.int .u64))], []⟩
def zwu : XS := .one .ret zs1.xe
theorem z15b : zwu.OK := XS.one_ok (z0a zs1)
def zaf (b : List Int) : Option ((Int)) :=
 z0i (List.length b) (
 (loopC z3x (0, b, (List.length b : Nat), 0)).bind fun o =>
 some o)
def zxk : Sig := ⟨52, [.d (.sl (.int .u8))], [], 0, zwu⟩
def zuc (x : (List Int)) : Option ((Int)) := zaf x
theorem z19c : FnOK Try.prog zxk zuc :=
 fn_ok zru (h := (.two .no (.two .no (.two (.two .no (.over (loopD z5e.xe z5c (loopC z3x)))) .no)))) Try.func52 (z0d [.den (.loop (subC (bodyC Try.f52) [1, 1, 0, 1, 0, 0])) (loopD z5e.xe z5c (loopC z3x))] (by kernel_rfl) ⟨zrh, trivial⟩) (by kernel_rfl) z15b (fun x => by kernel_rfl)
def z1de : Env := ⟨[(entQ zxk zuc)], [], []⟩
theorem z18r : EnvsOK Try.prog z1de := ⟨z0c (z0e z19c) (z0j _), z0g _, z0f _⟩
def zu3 : Shp := ⟨1, 0, [(0, .d c4)], []⟩
def zyk : XS := .one .ret zu3.xe
theorem z17q : zyk.OK := XS.one_ok (z0a zu3)
def zh1 (b : List Int) (room : Int) : Option ((T2)) :=
 bif subOk 8 16 (List.length b) then
 (zaf (subL b 8 16)).bind fun r =>
 bif subOk 16 24 (List.length b) then
 (zaf (subL b 16 24)).bind fun r2 =>
 bif subOk 24 32 (List.length b) then
 (zaf (subL b 24 32)).bind fun r3 =>
 bif subOk 0 8 (List.length b) then
 bif !(eqS (subL b 0 8) ([119, 97, 114, 100, 115, 104, 105, 112] : List Int)) then
 some (0, 0, 0)
 else
 bif subOk 32 40 (List.length b) then
 bif !(eqS (subL b 32 40) ([119, 97, 114, 100, 115, 104, 105, 112] : List Int)) then
 some (0, 0, 0)
 else
 bif subOk 16 32 (List.length b) then
 bif subOk 40 56 (List.length b) then
 bif !(eqS (subL b 16 32) (subL b 40 56)) then
 some (0, 0, 0)
 else
 bif subOk 56 64 (List.length b) then
 (zaf (subL b 56 64)).bind fun r4 =>
 bif neI r4 r then
 some (0, 0, 0)
 else
 bif ltI r 1 then
 some (0, 0, 0)
 else
 bif ltI 4611686018427387904 r then
 some (0, 0, 0)
 else
 bif ltI 1 r2 then
 some (0, 0, 0)
 else
 bif ltI (WU64 (room)) r3 then
 some (0, 0, 0)
 else
 some (r, W64 (r2), W64 (r3))
 else none
 else none
 else none
 else none
 else none
 else none
 else none
 else none
def zpm : Sig := ⟨32, [.d (.sl (.int .u8)), .d (.int .i64)], [], 0, zyk⟩
def znr (x : (List Int) × Int) : Option ((T2)) := zh1 x.1 x.2
theorem zxm : FnOK Try.prog zpm znr :=
 fn_ok z18r (h := .no) Try.func32 (z0d [] (by kernel_rfl) trivial) (by kernel_rfl) z17q (fun x => by kernel_rfl)
def z1g5 : Env := ⟨[], [], []⟩
theorem zyq : EnvsOK Try.prog z1g5 := ⟨z0j _, z0g _, z0f _⟩
def zbz : Shp := ⟨27, 0, [(0, .d (.int .u64)), (3, .wn 0 (.int .u8)), (4, .d (.int .i64)), (5, .d (.int .u8)), (21, .d .bool)], [.row 5 (.int .u8)]⟩
def z8k : XS := .one .normal zbz.xe
theorem zky : z8k.OK := XS.one_ok (z0a zbz)
def zhx : Shp := ⟨27, 0, [(3, .wn 0 (.int .u8))], [.row 5 (.int .u8)]⟩
def z7b : XS := .one (.exit 0) zhx.xe
theorem zt5 : z7b.OK := XS.one_ok (z0a zhx)
def z7e : Shp := ⟨27, 0, [(0, .d (.int .u64)), (3, .wn 0 (.int .u8)), (4, .d (.int .i64))], [.row 5 (.int .u8)]⟩
abbrev zdc := Int × Int × (List Int)
abbrev zm5 := ((List Int))
def z7f (n : Int) (shift : Int) (b : List Int) : Option (zdc ⊕ zm5) :=
 bif leI 0 shift then
 bif ltI shift 0 then none else
 (show Option ((Int × Int × Int × Bool × (List Int))) from
 bif neI (WU8 (shI .shr .u64 n shift)) 0 then
 bif Nat.beq (List.length b) (List.length b) then
 some (n, shift, WU8 (shI .shr .u64 n shift), true, b)
 else none
 else
 z0i (List.length b) (
 bif Nat.beq (List.length b) (List.length b) then
 some (n, shift, WU8 (shI .shr .u64 n shift), ltI 0 (List.length b : Nat), b)
 else none)).bind fun j =>
 bif j.2.2.2.1 then
 bif Nat.beq (List.length j.2.2.2.2) (List.length j.2.2.2.2) then
 appG (List.length j.2.2.2.2) (List.length ([j.2.2.1] : List Int)) 1 fun _ =>
 bif Nat.beq (List.length (j.2.2.2.2 ++ ([j.2.2.1] : List Int))) (List.length (j.2.2.2.2 ++ ([j.2.2.1] : List Int))) then
 some (.inl (j.1, W64 (j.2.1 - 8), j.2.2.2.2 ++ ([j.2.2.1] : List Int)))
 else none
 else none
 else
 bif Nat.beq (List.length j.2.2.2.2) (List.length j.2.2.2.2) then
 some (.inl (j.1, W64 (j.2.1 - 8), j.2.2.2.2))
 else none
 else
 bif Nat.beq (List.length b) (List.length b) then
 some (.inr b)
 else none
def z4y (s : zdc) : Option (zdc ⊕ zm5) := z7f s.1 s.2.1 s.2.2
theorem zun : SoundD Try.prog (.loop (subC (bodyC Try.f82) [1, 1, 0, 1, 0, 0])) (loopD z7e.xe z7b (loopC z4y)) :=
 z0y (S := z7e.xe) (X := z7b) zyq (h := (.two .no (.two (.two .no (.join (fun _ => z8k) .no .no)) .no))) (z0d [.xs (fun _ => z8k)] (by kernel_rfl) ⟨(za1 zky), trivial⟩) (z0a z7e) zt5 z4y (fun s => by kernel_rfl)
def zys : Shp := ⟨1, 0, [(0, .wn 0 (.int .u8))], [.row 5 (.int .u8)]⟩
def z14l : XS := .one .ret zys.xe
theorem z1ag : z14l.OK := XS.one_ok (z0a zys)
def zrp (n : Int) : Option (((List Int))) :=
 bif Nat.beq (List.length ([] : List Int)) (List.length ([] : List Int)) then
 (loopC z4y (n, 56, ([] : List Int))).bind fun o =>
 bif Nat.beq (List.length o) (List.length o) then
 some o
 else none
 else none
def z14m : Sig := ⟨82, [.d (.int .u64)], [], 0, z14l⟩
def z11w (x : Int) : Option (((List Int))) := zrp x
theorem z1e6 : FnOK Try.prog z14m z11w :=
 fn_ok zyq (h := (.two .no (.two (.reg [0] []) (.two (.two .no (.over (loopD z7e.xe z7b (loopC z4y)))) .no)))) Try.func82 (z0d [.den (.loop (subC (bodyC Try.f82) [1, 1, 0, 1, 0, 0])) (loopD z7e.xe z7b (loopC z4y))] (by kernel_rfl) ⟨zun, trivial⟩) (by kernel_rfl) z1ag (fun x => by kernel_rfl)
def z18t : Env := ⟨[], [(entP z14m z11w)], []⟩
theorem z14y : EnvsOK Try.prog z18t := ⟨z0j _, z0l (z0t z1e6) (z0g _), z0f _⟩
def zqi : Shp := ⟨1, 0, [(0, .wn 0 (.int .u8))], [.row 5 (.int .u8)]⟩
def zu1 : XS := .one .ret zqi.xe
theorem z13d : zu1.OK := XS.one_ok (z0a zqi)
def zbg (n : Int) : Option (((List Int))) :=
 (zrp n).bind fun r =>
 z0i (List.length r) (
 makeG (W64 (8 - (List.length r : Nat))) 1 (
 bif Nat.beq ((W64 (8 - (List.length r : Nat))).toNat) (List.length (List.replicate ((W64 (8 - (List.length r : Nat))).toNat) (0 : Int))) then
 winK r 0 (List.length r) fun w =>
 appG (List.length (List.replicate ((W64 (8 - (List.length r : Nat))).toNat) (0 : Int))) (List.length w) 1 fun _ =>
 bif Nat.beq (List.length ((List.replicate ((W64 (8 - (List.length r : Nat))).toNat) (0 : Int)) ++ w)) (List.length ((List.replicate ((W64 (8 - (List.length r : Nat))).toNat) (0 : Int)) ++ w)) then
 some ((List.replicate ((W64 (8 - (List.length r : Nat))).toNat) (0 : Int)) ++ w)
 else none
 else none))
def zmi : Sig := ⟨73, [.d (.int .u64)], [], 0, zu1⟩
def zj2 (x : Int) : Option (((List Int))) := zbg x
theorem zrv : FnOK Try.prog zmi zj2 :=
 fn_ok z14y (h := .no) Try.func73 (z0d [] (by kernel_rfl) trivial) (by kernel_rfl) z13d (fun x => by kernel_rfl)
def z1ch : Env := ⟨[], [(entP z12w zzi)], []⟩
theorem zmb : EnvsOK Try.prog z1ch := ⟨z0j _, z0l (z0t z19i) (z0g _), z0f _⟩
def zg8 : Shp := ⟨36, 0, [(0, .d c5), (3, .d (.int .i64))], []⟩
def z6d : XS := .one (.exit 0) zg8.xe
theorem zqm : z6d.OK := XS.one_ok (z0a zg8)
def z6g : Shp := ⟨36, 0, [(0, .d c5), (3, .d (.int .i64)), (9, .d c5), (10, .d (.int .i64)), (11, .d (.int .i64))], []⟩
abbrev zc3 := (List (List Int)) × Int × (List (List Int)) × Int × Int
abbrev zii := ((List (List Int)) × Int)
def z6j (slices : List (List Int)) (size : Int) (t9 : List (List Int)) (t10 : Int) (t11 : Int) : Option (zc3 ⊕ zii) :=
 bif ltI t11 t10 then
 (idxI t9 t11).bind fun x =>
 z0i (List.length x) (
 bif ltI (W64 (size + (List.length x : Nat))) 0 then
 none
 else
 some (.inl (slices, W64 (size + (List.length x : Nat)), t9, t10, W64 (t11 + 1))))
 else
 some (.inr (slices, size))
def z2z (s : zc3) : Option (zc3 ⊕ zii) := z6j s.1 s.2.1 s.2.2.1 s.2.2.2.1 s.2.2.2.2
theorem zs6 : SoundD Try.prog (.loop (subC (bodyC Try.f38) [1, 1, 0, 1, 0, 0])) (loopD z6g.xe z6d (loopC z2z)) :=
 z0y (S := z6g.xe) (X := z6d) zmb (h := .no) (z0d [] (by kernel_rfl) trivial) (z0a z6g) zqm z2z (fun s => by kernel_rfl)
def zd4 : Shp := ⟨36, 0, [(6, .wn 0 (.int .u8))], [.row 5 (.int .u8)]⟩
def z4m : XS := .one (.exit 2) zd4.xe
theorem znk : z4m.OK := XS.one_ok (z0a zd4)
def z4l : Shp := ⟨36, 0, [(6, .wn 0 (.int .u8)), (25, .d c5), (26, .d (.int .i64)), (27, .d (.int .i64))], [.row 5 (.int .u8)]⟩
abbrev za9 := (List (List Int)) × Int × Int × (List Int)
abbrev zem := ((List Int))
def z4n (t25 : List (List Int)) (t26 : Int) (t27 : Int) (newslice : List Int) : Option (za9 ⊕ zem) :=
 bif ltI t27 t26 then
 (idxI t25 t27).bind fun x =>
 bif Nat.beq (List.length newslice) (List.length newslice) then
 appG (List.length newslice) (List.length x) 1 fun _ =>
 bif Nat.beq (List.length (newslice ++ x)) (List.length (newslice ++ x)) then
 some (.inl (t25, t26, W64 (t27 + 1), newslice ++ x))
 else none
 else none
 else
 bif Nat.beq (List.length newslice) (List.length newslice) then
 some (.inr newslice)
 else none
def z1w (s : za9) : Option (za9 ⊕ zem) := z4n s.1 s.2.1 s.2.2.1 s.2.2.2
theorem zov : SoundD Try.prog (.loop (subC (bodyC Try.f38) [1, 1, 1, 1, 0, 1, 0, 0])) (loopD z4l.xe z4m (loopC z1w)) :=
 z0y (S := z4l.xe) (X := z4m) zmb (h := .no) (z0d [] (by kernel_rfl) trivial) (z0a z4l) znk z1w (fun s => by kernel_rfl)
def zu0 : Shp := ⟨1, 0, [(0, .wn 0 (.int .u8))], [.row 5 (.int .u8)]⟩
def zyo : XS := .one .ret zu0.xe
theorem z16l : zyo.OK := XS.one_ok (z0a zu0)
def zhh (slices : List (List Int)) : Option (((List Int))) :=
 z0i (List.length slices) (
 (loopC z2z (slices, 0, slices, (List.length slices : Nat), 0)).bind fun o =>
 (z13r o.2).bind fun r =>
 z0i (List.length o.1) (
 bif Nat.beq (List.length r) (List.length r) then
 (loopC z1w (o.1, (List.length o.1 : Nat), 0, r)).bind fun o2 =>
 bif Nat.beq (List.length o2) (List.length o2) then
 some o2
 else none
 else none))
def zyz : Sig := ⟨38, [.d c5], [], 0, zyo⟩
def zwx (x : (List (List Int))) : Option (((List Int))) := zhh x
theorem z1bd : FnOK Try.prog zyz zwx :=
 fn_ok zmb (h := (.two .no (.two .no (.two (.two .no (.over (loopD z6g.xe z6d (loopC z2z)))) (.two .no (.two (.two .no (.over (loopD z4l.xe z4m (loopC z1w)))) .no)))))) Try.func38 (z0d [.den (.loop (subC (bodyC Try.f38) [1, 1, 0, 1, 0, 0])) (loopD z6g.xe z6d (loopC z2z)), .den (.loop (subC (bodyC Try.f38) [1, 1, 1, 1, 0, 1, 0, 0])) (loopD z4l.xe z4m (loopC z1w))] (by kernel_rfl) ⟨zs6, zov, trivial⟩) (by kernel_rfl) z16l (fun x => by kernel_rfl)
def zpr : Env := ⟨[], [(entP zmi zj2), (entP zyz zwx)], [(entD zmi zj2)]⟩
theorem zno : EnvsOK Try.prog zpr := ⟨z0j _, z0l (z0t zrv) (z0l (z0t z1bd) (z0g _)), z1mz (z1rz zrv) (z0f _)⟩
def zcg : Shp := ⟨1, 0, [(0, .d (.sl (.int .u8)))], []⟩
def ze0 : XS := .one .ret zcg.xe
theorem zmx : ze0.OK := XS.one_ok (z0a zcg)
def z1y (t : T2) : Option (((List Int))) :=
 (zbg t.1).bind fun r =>
 (zbg (WU64 (t.2.1))).bind fun r2 =>
 (zbg (WU64 (t.2.2))).bind fun r3 =>
 bif Nat.beq (List.length r2) (List.length r2) then
 winK r3 0 (List.length r3) fun w =>
 appG (List.length r2) (List.length w) 1 fun _ =>
 winK ([119, 97, 114, 100, 115, 104, 105, 112] : List Int) 0 (List.length ([119, 97, 114, 100, 115, 104, 105, 112] : List Int)) fun w2 =>
 winK r 0 (List.length r) fun w3 =>
 winK (r2 ++ w) 0 (List.length (r2 ++ w)) fun w4 =>
 winK ([119, 97, 114, 100, 115, 104, 105, 112] : List Int) 0 (List.length ([119, 97, 114, 100, 115, 104, 105, 112] : List Int)) fun w5 =>
 winK (r2 ++ w) 0 (List.length (r2 ++ w)) fun w6 =>
 winK r 0 (List.length r) fun w7 =>
 (zhh ([w2, w3, w4, w5, w6, w7] : List (List Int))).bind fun r4 =>
 bif Nat.beq (List.length r4) (List.length r4) then
 appG (List.length r4) 192 1 fun _ =>
 winK (r4 ++ (List.replicate 192 (0 : Int))) 0 (List.length (r4 ++ (List.replicate 192 (0 : Int)))) fun w8 =>
 some w8
 else none
 else none
def z4h : Sig := ⟨54, [.d c4], [], 0, ze0⟩
def z3o (x : T2) : Option (((List Int))) := z1y x
theorem z5q : FnOK Try.prog z4h z3o :=
 fn_ok zno (h := (.two .no (.two (.reg [] [10, 0, 0, 2]) (.two (.reg [0, 4, 2000008] []) .no)))) Try.func54 (z0d [] (by kernel_rfl) trivial) (by kernel_rfl) zmx (fun x => by kernel_rfl)
def z11p : Env := ⟨[(entQ zho zgj)], [], []⟩
theorem zy5 : EnvsOK Try.prog z11p := ⟨z0c (z0e zp8) (z0j _), z0g _, z0f _⟩
def zlk : Shp := ⟨1, 0, [(0, .d (.int .i64))], []⟩
def zof : XS := .one .ret zlk.xe
theorem zx8 : zof.OK := XS.one_ok (z0a zlk)
def zcx (i : Int) (b : List Int) : Option ((Int)) :=
 (zm9 i).bind fun r =>
 bif neI r 0 then
 some r
 else
 z0i (List.length b) (
 bif neI (List.length b : Nat) 256 then
 some 1
 else
 bif Nat.ble 256 (List.length (List.replicate 256 (0 : Int))) then
 none
 else none)
def zb9 : Sig := ⟨53, [.c .nilp, .d (.int .i64), .d (.sl (.int .u8))], [], 0, zof⟩
def zao (x : Int × (List Int)) : Option ((Int)) := zcx x.1 x.2
theorem zeb : FnOK Try.prog zb9 zao :=
 fn_ok zy5 (h := .no) Try.func53 (z0d [] (by kernel_rfl) trivial) (by kernel_rfl) zx8 (fun x => by kernel_rfl)
def zy6 : Env := ⟨[(entQ zhr zgg)], [], []⟩
theorem zup : EnvsOK Try.prog zy6 := ⟨z0c (z0e zpp) (z0j _), z0g _, z0f _⟩
def zim : Shp := ⟨1, 0, [(0, .d (.int .i64))], []⟩
def zm3 : XS := .one .ret zim.xe
theorem zt3 : zm3.OK := XS.one_ok (z0a zim)
def zbb  : Option ((Int)) :=
 (zml).bind fun r =>
 bif r then
 some 6
 else
 none
def zaa : Sig := ⟨55, [.c .nilp], [], 0, zm3⟩
def z9p (x : Unit) : Option ((Int)) := zbb 
theorem zce : FnOK Try.prog zaa z9p :=
 fn_ok zup (h := .no) Try.func55 (z0d [] (by kernel_rfl) trivial) (by kernel_rfl) zt3 (fun x => by kernel_rfl)
def zxp : Env := ⟨[(entQ z4h z3o), (entQ zb9 zao), (entQ zaa z9p)], [], []⟩
theorem ztj : EnvsOK Try.prog zxp := ⟨z0c (z0e z5q) (z0c (z0e zeb) (z0c (z0e zce) (z0j _))), z0g _, z0f _⟩
def zeu : Shp := ⟨34, 1, [(0, .pt 0 r6 []), (3, .pt 1 r7 []), (5, .d (.int .i64))], [.var 75 (.ag [.c .nilp, .d c4, .d (.sl (.int .u8)), .d (.int .i64), .d .bool]), .var 73 (.d c4)]⟩
def zax : XS := .one .normal zeu.xe
theorem zpo : zax.OK := XS.one_ok (z0a zeu)
def zh7 : Shp := ⟨1, 1, [(0, .d (.int .i64))], [.var 75 (.ag [.c .nilp, .d c4, .d (.sl (.int .u8)), .d (.int .i64), .d .bool])]⟩
def zjj : XS := .one .ret zh7.xe
theorem zsp : zjj.OK := XS.one_ok (z0a zh7)
def zmp (t : T2) (j : T2) (j2 : List Int) (j3 : Int) (j4 : Bool) : Option ((Int × T2 × (List Int) × Int × Bool)) :=
 (z1y t).bind fun r =>
 (zcx (W64 (Int.tmod t.1 2)) r).bind fun r2 =>
 (show Option ((Int × T2 × (List Int) × Int × Bool × T2)) from
 bif eqI r2 0 then
 (zbb).bind fun r3 =>
 some (r3, j, j2, j3, j4, t)
 else
 some (r2, j, j2, j3, j4, t)).bind fun j5 =>
 bif neI j5.1 0 then
 some (j5.1, j5.2.1, j5.2.2.1, j5.2.2.2.1, true)
 else
 some (0, j5.2.2.2.2.2, j5.2.2.1, j5.2.2.2.1, j5.2.2.2.2.1)
def zk6 : Sig := ⟨33, [.pt 0 r6 [], .d c4], [.var 75 (.ag [.c .nilp, .d c4, .d (.sl (.int .u8)), .d (.int .i64), .d .bool])], 1, zjj⟩
def zht (x : T2 × T2 × (List Int) × Int × Bool) : Option ((Int × T2 × (List Int) × Int × Bool)) := zmp x.1 x.2.1 x.2.2.1 x.2.2.2.1 x.2.2.2.2
theorem zux : FnOK Try.prog zk6 zht :=
 fn_ok ztj (h := (.two .no (.two .no (.join (fun _ => zax) .no .no)))) Try.func33 (z0d [.xs (fun _ => zax)] (by kernel_rfl) ⟨(za1 zpo), trivial⟩) (by kernel_rfl) zsp (fun x => by kernel_rfl)
def z13t : Env := ⟨[(entQ z7k z6o)], [], []⟩
theorem zzw : EnvsOK Try.prog z13t := ⟨z0c (z0e z8p) (z0j _), z0g _, z0f _⟩
def znb : Shp := ⟨1, 0, [(0, .d (.int .i64))], []⟩
def zpa : XS := .one .ret znb.xe
theorem zy3 : zpa.OK := XS.one_ok (z0a znb)
def zkn (j : T2) (j2 : List Int) (j3 : Int) (j4 : Bool) (side : Int) (i : Int) : Option ((Int)) :=
 (za0).bind fun r =>
 some (W64 ((W64 (2 + (W64 (side * r)))) + i))
def zgl : Sig := ⟨34, [.rf (.ag [.c .nilp, .d c4, .d (.sl (.int .u8)), .d (.int .i64), .d .bool]), .d (.int .i64), .d (.int .i64)], [], 0, zpa⟩
def zf7 (x : T2 × (List Int) × Int × Bool × Int × Int) : Option ((Int)) := zkn x.1 x.2.1 x.2.2.1 x.2.2.2.1 x.2.2.2.2.1 x.2.2.2.2.2
theorem zod : FnOK Try.prog zgl zf7 :=
 fn_ok zzw (h := .no) Try.func34 (z0d [] (by kernel_rfl) trivial) (by kernel_rfl) zy3 (fun x => by kernel_rfl)
def zwm : Env := ⟨[(entQ z4h z3o), (entQ zb9 zao), (entQ zaa z9p)], [], []⟩
theorem zti : EnvsOK Try.prog zwm := ⟨z0c (z0e z5q) (z0c (z0e zeb) (z0c (z0e zce) (z0j _))), z0g _, z0f _⟩
def zep : Shp := ⟨34, 1, [(0, .pt 0 r6 []), (3, .pt 1 r7 []), (5, .d (.int .i64))], [.var 75 (.ag [.c .nilp, .d c4, .wn 2 (.int .u8), .d (.int .i64), .d .bool]), .var 73 (.d c4), .row 5 (.int .u8)]⟩
def zay : XS := .one .normal zep.xe
theorem zpu : zay.OK := XS.one_ok (z0a zep)
def zhi : Shp := ⟨1, 1, [(0, .d (.int .i64))], [.var 75 (.ag [.c .nilp, .d c4, .d (.sl (.int .u8)), .d (.int .i64), .d .bool])]⟩
def zkk : XS := .one .ret zhi.xe
theorem zsr : zkk.OK := XS.one_ok (z0a zhi)
def zmt (t : T2) (j : T2) (j2 : Int) (j3 : Bool) (j4 : List Int) : Option ((Int × T2 × (List Int) × Int × Bool)) :=
 (z1y t).bind fun r =>
 (zcx (W64 (Int.tmod t.1 2)) r).bind fun r2 =>
 (show Option ((Int × T2 × Int × Bool × T2 × (List Int))) from
 bif eqI r2 0 then
 (zbb).bind fun r3 =>
 bif Nat.beq (List.length j4) (List.length j4) then
 some (r3, j, j2, j3, t, j4)
 else none
 else
 bif Nat.beq (List.length j4) (List.length j4) then
 some (r2, j, j2, j3, t, j4)
 else none).bind fun j5 =>
 bif neI j5.1 0 then
 winK j5.2.2.2.2.2 0 (List.length j5.2.2.2.2.2) fun w =>
 some (j5.1, j5.2.1, w, j5.2.2.1, true)
 else
 winK j5.2.2.2.2.2 0 (List.length j5.2.2.2.2.2) fun w2 =>
 some (0, j5.2.2.2.2.1, w2, j5.2.2.1, j5.2.2.2.1)
def zjo : Sig := ⟨33, [.pt 0 r6 [], .d c4], [.var 75 (.ag [.c .nilp, .d c4, .wn 1 (.int .u8), .d (.int .i64), .d .bool]), .row 5 (.int .u8)], 1, zkk⟩
def zir (x : T2 × T2 × Int × Bool × (List Int)) : Option ((Int × T2 × (List Int) × Int × Bool)) := zmt x.1 x.2.1 x.2.2.1 x.2.2.2.1 x.2.2.2.2
theorem zuz : FnOK Try.prog zjo zir :=
 fn_ok zti (h := (.two .no (.two .no (.join (fun _ => zay) .no .no)))) Try.func33 (z0d [.xs (fun _ => zay)] (by kernel_rfl) ⟨(za1 zpu), trivial⟩) (by kernel_rfl) zsr (fun x => by kernel_rfl)
def z1og : Env := ⟨[], [], []⟩
theorem z19j : EnvsOK Try.prog z1og := ⟨z0j _, z0g _, z0f _⟩
def zol : Shp := ⟨27, 0, [(3, .d (.int .u32)), (4, .d (.int .u32))], []⟩
def zae : XS := .one (.exit 0) zol.xe
theorem zzf : zae.OK := XS.one_ok (z0a zol)
def zac : Shp := ⟨27, 0, [(3, .d (.int .u32)), (4, .d (.int .u32)), (7, .d (.sl (.int .u8))), (8, .d (.int .i64)), (9, .d (.int .i64))], []⟩
abbrev zhp := Int × Int × (List Int) × Int × Int
abbrev zqg := (Int × Int)
def zab (low : Int) (high : Int) (t7 : List Int) (t8 : Int) (t9 : Int) : Option (zhp ⊕ zqg) :=
 bif ltI t9 t8 then
 (idxI t7 t9).bind fun x =>
 some (.inl ((Int.tmod ((WU32 (low + (WU32 (x))))) 65521, Int.tmod ((WU32 (high + (Int.tmod ((WU32 (low + (WU32 (x))))) 65521)))) 65521, t7, t8, W64 (t9 + 1))))
 else
 some (.inr (low, high))
def z7p (s : zhp) : Option (zhp ⊕ zqg) := zab s.1 s.2.1 s.2.2.1 s.2.2.2.1 s.2.2.2.2
theorem z10p : SoundD Try.prog (.loop (subC (bodyC Try.f76) [1, 1, 0, 1, 0, 0])) (loopD zac.xe zae (loopC z7p)) :=
 z0y (S := zac.xe) (X := zae) z19j (h := .no) (z0d [] (by kernel_rfl) trivial) (z0a zac) zzf z7p (fun s => by kernel_rfl)
def z19v : Shp := ⟨1, 0, [(0, .d (.int .u32))], []⟩
def z1fs : XS := .one .ret z19v.xe
theorem z1ie : z1fs.OK := XS.one_ok (z0a z19v)
def z11m (b : List Int) : Option ((Int)) :=
 z0i (List.length b) (
 (loopC z7p (1, 0, b, (List.length b : Nat), 0)).bind fun o =>
 some (bitI .or .u32 (shI .shl .u32 o.2 16) o.1))
def z17x : Sig := ⟨76, [.d (.sl (.int .u8))], [], 0, z1fs⟩
def z14c (x : (List Int)) : Option ((Int)) := z11m x
theorem z1c0 : FnOK Try.prog z17x z14c :=
 fn_ok z19j (h := (.two .no (.two .no (.two (.two .no (.over (loopD zac.xe zae (loopC z7p)))) .no)))) Try.func76 (z0d [.den (.loop (subC (bodyC Try.f76) [1, 1, 0, 1, 0, 0])) (loopD zac.xe zae (loopC z7p))] (by kernel_rfl) ⟨z10p, trivial⟩) (by kernel_rfl) z1ie (fun x => by kernel_rfl)
def z1lr : Env := ⟨[(entQ z17x z14c)], [], []⟩
theorem z1hn : EnvsOK Try.prog z1lr := ⟨z0c (z0e z1c0) (z0j _), z0g _, z0f _⟩
def z16q : Shp := ⟨1, 0, [(0, .d (.sl (.int .u8)))], []⟩
def z1dg : XS := .one .ret z16q.xe
theorem z1g1 : z1dg.OK := XS.one_ok (z0a z16q)
def z14e (b : List Int) : Option (((List Int))) :=
 (z11m b).bind fun r =>
 appG (List.length ([] : List Int)) (List.length b) 1 fun _ =>
 bif Nat.beq (List.length b) (List.length b) then
 appG (List.length b) (List.length ([WU8 (shI .shr .u32 r 24), WU8 (shI .shr .u32 r 16), WU8 (shI .shr .u32 r 8), WU8 (r)] : List Int)) 1 fun _ =>
 winK (b ++ ([WU8 (shI .shr .u32 r 24), WU8 (shI .shr .u32 r 16), WU8 (shI .shr .u32 r 8), WU8 (r)] : List Int)) 0 (List.length (b ++ ([WU8 (shI .shr .u32 r 24), WU8 (shI .shr .u32 r 16), WU8 (shI .shr .u32 r 8), WU8 (r)] : List Int))) fun w =>
 some w
 else none
def z1db : Sig := ⟨59, [.d (.sl (.int .u8))], [], 0, z1dg⟩
def z1a3 (x : (List Int)) : Option (((List Int))) := z14e x
theorem z1j4 : FnOK Try.prog z1db z1a3 :=
 fn_ok z1hn (h := (.two .no (.two .no (.two (.reg [2] []) .no)))) Try.func59 (z0d [] (by kernel_rfl) trivial) (by kernel_rfl) z1g1 (fun x => by kernel_rfl)
def z1gy : Env := ⟨[(entQ z1db z1a3)], [], []⟩
theorem z1e0 : EnvsOK Try.prog z1gy := ⟨z0c (z0e z1j4) (z0j _), z0g _, z0f _⟩
def z11v : Shp := ⟨1, 0, [(0, .tu [.wn 0 (.int .u8), .d (.int .i64)])], [.row 5 (.int .u8)]⟩
def z17j : XS := .one .ret z11v.xe
theorem z1c9 : z17j.OK := XS.one_ok (z0a z11v)
def zva (b : List Int) : Option ((Int × (List Int))) :=
 z0i (List.length b) (
 bif ltI (W64 ((List.length b : Nat) - 4)) 0 then
 bif Nat.beq 0 (List.length ([] : List Int)) then
 some (8, ([] : List Int))
 else none
 else
 bif subOk 0 (W64 ((List.length b : Nat) - 4)) (List.length b) then
 (z14e (subL b 0 (W64 ((List.length b : Nat) - 4)))).bind fun r =>
 bif !(eqS r b) then
 bif Nat.beq 0 (List.length ([] : List Int)) then
 some (9, ([] : List Int))
 else none
 else
 bif subOk 0 (W64 ((List.length b : Nat) - 4)) (List.length b) then
 appG (List.length ([] : List Int)) (List.length (subL b 0 (W64 ((List.length b : Nat) - 4)))) 1 fun _ =>
 bif Nat.beq (List.length (subL b 0 (W64 ((List.length b : Nat) - 4)))) (List.length (subL b 0 (W64 ((List.length b : Nat) - 4)))) then
 some ((0, subL b 0 (W64 ((List.length b : Nat) - 4))))
 else none
 else none
 else none)
def z16k : Sig := ⟨57, [.d (.sl (.int .u8))], [], 0, z17j⟩
def z14v (x : (List Int)) : Option ((Int × (List Int))) := zva x
theorem z1gb : FnOK Try.prog z16k z14v :=
 fn_ok z1e0 (h := (.two .no (.two .no (.two .no (.two .no (.two (.reg [4] []) .no)))))) Try.func57 (z0d [] (by kernel_rfl) trivial) (by kernel_rfl) z1c9 (fun x => by kernel_rfl)
def z1b0 : Env := ⟨[], [], []⟩
theorem z17c : EnvsOK Try.prog z1b0 := ⟨z0j _, z0g _, z0f _⟩
def zsk : Shp := ⟨1, 1, [(0, .fn 74 [.pt 1 (.one .leaf) []])], [.row 5 (.int .u8), .var 34 (.d (.sl (.int .u8)))]⟩
def zwk : XS := .one .ret zsk.xe
theorem z15i : zwk.OK := XS.one_ok (z0a zsk)
def zrd (b : List Bool) (b2 : List Int) : Option (((List Int) × (List Int))) :=
 winK b2 0 (lenW b) fun w =>
 appG (List.length ([] : List Int)) (List.length w) 1 fun _ =>
 winK w 0 (List.length w) fun w2 =>
 some (b2, w2)
def zw0 : Sig := ⟨56, [.ws 0 (.int .u8)], [.row 5 (.int .u8)], 1, zwk⟩
def zu6 (x : (List Bool) × (List Int)) : Option (((List Int) × (List Int))) := zrd x.1 x.2
theorem z19a : FnOK Try.prog zw0 zu6 :=
 fn_ok z17c (h := (.two .no (.two (.reg [2, 4] []) .no))) Try.func56 (z0d [] (by kernel_rfl) trivial) (by kernel_rfl) z15i (fun x => by kernel_rfl)
def z1an : Env := ⟨[], [(entP zw0 zu6), (entP z16k z14v)], []⟩
theorem zss : EnvsOK Try.prog z1an := ⟨z0j _, z0l (z0t z19a) (z0l (z0t z1gb) (z0g _)), z0f _⟩
def zfb : Shp := ⟨27, 4, [], [.row 5 (.int .u8), .var 28 (.wn 4 (.sl (.int .u8))), .var 24 (.d (.int .i64)), .var 28 (.wn 5 (.sl (.int .u8))), .row 34 (.sl (.int .u8)), .row 34 (.sl (.int .u8))]⟩
def z5n : XS := .one .ret zfb.xe
theorem zq5 : z5n.OK := XS.one_ok (z0a zfb)
def z5g : Shp := ⟨27, 1, [(2, .pt 1 (.one .leaf) []), (3, .pt 2 (.one .leaf) []), (4, .pt 3 (.one .leaf) []), (10, .fn 74 [.rf (.d (.sl (.int .u8)))])], [.row 5 (.int .u8), .var 28 (.wn 4 (.sl (.int .u8))), .var 24 (.d (.int .i64)), .var 28 (.wn 5 (.sl (.int .u8))), .row 34 (.sl (.int .u8)), .row 34 (.sl (.int .u8))]⟩
def z8f : Shp := ⟨27, 4, [], [.row 5 (.int .u8), .var 28 (.wn 4 (.sl (.int .u8))), .var 24 (.d (.int .i64)), .var 28 (.wn 5 (.sl (.int .u8))), .row 34 (.sl (.int .u8)), .row 34 (.sl (.int .u8))]⟩
abbrev z5i := (List Int) × (List Int) × Int × (List (List Int)) × (List (List Int))
abbrev z5o := (List Int) × Int × (List (List Int)) × (List (List Int))
abbrev zbq := ((List Int) × Int × (List (List Int)) × (List (List Int)))
abbrev zty := (List Int) × Int
def zbs (t10 : List Int) (h : List Int) (t3 : Int) (t2 : List (List Int)) (out : List (List Int)) (h2 : List Int) (h3 : Int) (h4 : List (List Int)) (h5 : List (List Int)) (t11 : List Int) (t12 : Int) : Option (z5o ⊕ zbq) :=
 bif neI t12 0 then
 bif Nat.beq 0 (List.length ([] : List (List Int))) then
 bif Nat.beq (List.length h5) (List.length h5) then
 some (.inr (h2, 7, ([] : List (List Int)), h5))
 else none
 else none
 else
 (zva t11).bind fun r =>
 bif neI r.1 0 then
 bif Nat.beq 0 (List.length ([] : List (List Int))) then
 bif Nat.beq (List.length h5) (List.length h5) then
 some (.inr (h2, 9, ([] : List (List Int)), h5))
 else none
 else none
 else
 winK r.2 0 (List.length r.2) fun w =>
 bif Nat.beq (List.length h5) (List.length h5) then
 appG (List.length h5) (List.length ([w] : List (List Int))) 24 fun _ =>
 bif Nat.beq (List.length h4) (List.length h4) then
 bif Nat.beq (List.length (h5 ++ ([w] : List (List Int)))) (List.length (h5 ++ ([w] : List (List Int)))) then
 some (.inl (h2, h3, h4, h5 ++ ([w] : List (List Int))))
 else none
 else none
 else none
def z1f (s : z5i) (h : z5o) (x : zty) : Option (z5o ⊕ zbq) := zbs s.1 s.2.1 s.2.2.1 s.2.2.2.1 s.2.2.2.2 h.1 h.2.1 h.2.2.1 h.2.2.2 x.1 x.2
def z3k (s : z5i) : z5o := (s.2.1, s.2.2.1, s.2.2.2.1, s.2.2.2.2)
def z4u (s : z5i) : (List Int) := s.1
def zbt (s : z5i) : Option (z5o ⊕ zbq) := (ze7 (decB (z1f s) (z3k s)) (z4u s)).bind fun tr => runB (z1f s) (z3k s) tr
theorem zqu : SoundD Try.prog (.rangeFunc (.tmp 10) #[11, 12] (subC (bodyC Try.f35) [1, 1, 0, 1, 0, 0]) (subC (bodyC Try.f35) [1, 1, 0, 1, 0, 1])) (z10v (A := [.d (.sl (.int .u8)), .d (.int .i64)]) (C := [.rf (.d (.sl (.int .u8)))]) z5g.xe z8f z5n ze7 z4u z3k z1f) :=
 z1j8 (A := [.d (.sl (.int .u8)), .d (.int .i64)]) (C := [.rf (.d (.sl (.int .u8)))]) (S := z5g.xe) (Sh := z8f) (X := z5n) zss z1kq (g1 := .no) (g2 := (.two .no (.two .no (.two .no (.reg [2000002] []))))) (z0d [] (by kernel_rfl) trivial) (z0d [] (by kernel_rfl) trivial) (z0a z5g) zq5 (fun s => by kernel_rfl) (fun s => by kernel_rfl) (fun s => by kernel_rfl) (fun s => by kernel_rfl) (fun s => by kernel_rfl) (fun x => by kernel_rfl) (fun x => by kernel_rfl) z1f (fun s h x => by kernel_rfl)
def zrz : Shp := ⟨1, 1, [(0, .tu [.wn 1 (.sl (.int .u8)), .d (.int .i64)])], [.row 5 (.int .u8), .row 34 (.sl (.int .u8))]⟩
def zx7 : XS := .one .ret zrz.xe
theorem z15j : zx7.OK := XS.one_ok (z0a zrz)
def zfh (b : List Bool) (b2 : List Int) : Option ((Int × (List Int) × (List (List Int)))) :=
 (zrd (List.replicate (lenW b) true) b2).bind fun r =>
 bif Nat.beq 0 (List.length ([] : List (List Int))) then
 bif Nat.beq 0 (List.length ([] : List (List Int))) then
 (zbt (r.2, r.1, 0, ([] : List (List Int)), ([] : List (List Int)))).bind fun o =>
 Sum.elim (fun y =>
 bif Nat.beq (List.length y.2.2.2) (List.length y.2.2.2) then
 some (0, y.1, y.2.2.2)
 else none) (fun y2 =>
 bif Nat.beq (List.length y2.2.2.1) (List.length y2.2.2.1) then
 some (y2.2.1, y2.1, y2.2.2.1)
 else none) o
 else none
 else none
def znm : Sig := ⟨35, [.ws 0 (.int .u8)], [.row 5 (.int .u8)], 1, zx7⟩
def zmg (x : (List Bool) × (List Int)) : Option ((Int × (List Int) × (List (List Int)))) := zfh x.1 x.2
theorem zub : FnOK Try.prog znm zmg :=
 fn_ok zss (h := (.two .no (.two .no (.two (.two .no (.over (z10v (A := [.d (.sl (.int .u8)), .d (.int .i64)]) (C := [.rf (.d (.sl (.int .u8)))]) z5g.xe z8f z5n ze7 z4u z3k z1f))) .no)))) Try.func35 (z0d [.den (.rangeFunc (.tmp 10) #[11, 12] (subC (bodyC Try.f35) [1, 1, 0, 1, 0, 0]) (subC (bodyC Try.f35) [1, 1, 0, 1, 0, 1])) (z10v (A := [.d (.sl (.int .u8)), .d (.int .i64)]) (C := [.rf (.d (.sl (.int .u8)))]) z5g.xe z8f z5n ze7 z4u z3k z1f)] (by kernel_rfl) ⟨zqu, trivial⟩) (by kernel_rfl) z15j (fun x => by kernel_rfl)
def z1ad : Env := ⟨[(entQ zgo zfs), (entQ z7k z6o), (entQ zpf zoa), (entQ zpm znr), (entQ zgl zf7)], [(entP zjo zir), (entP znm zmg)], []⟩
theorem zkb : EnvsOK Try.prog z1ad := ⟨z0c (z0e zok) (z0c (z0e z8p) (z0c (z0e z10h) (z0c (z0e zxm) (z0c (z0e zod) (z0j _))))), z0l (z0t zuz) (z0l (z0t zub) (z0g _)), z0f _⟩
def zcq : Shp := ⟨138, 0, [(0, .c .nilp), (5, .pt 0 r6 [])], [.var 75 (.ag [.c .nilp, .d c4, .wn 1 (.int .u8), .d (.int .i64), .d .bool]), .row 5 (.int .u8)]⟩
def zcp : Shp := ⟨138, 0, [(2, .c .nilp), (3, .d c5), (4, .d (.int .i64))], []⟩
def z4c : XS := .or (.exit 0) zcq.xe (.one .ret zcp.xe)
theorem zmw : z4c.OK := XS.or_ok (z0a zcq) (XS.one_ok (z0a zcp))
def z4e : Shp := ⟨138, 0, [(0, .c .nilp), (5, .pt 0 r6 []), (6, .d (.int .i64)), (26, .d (.int .i64))], [.var 75 (.ag [.c .nilp, .d c4, .wn 1 (.int .u8), .d (.int .i64), .d .bool]), .row 5 (.int .u8)]⟩
abbrev z9x := Int × Int × T2 × Int × Bool × (List Int)
abbrev zdo := (T2 × Int × Bool × (List Int)) ⊕ ((List (List Int)) × Int)
def zph (room : Int) (t26 : Int) (j : T2) (j2 : Int) (j3 : Bool) (j4 : List Int) : Option (z9x ⊕ zdo) :=
 bif ltI t26 2 then
 (zj9 t26).bind fun r =>
 bif neI r.2 0 then
 some (.inr (.inr ([], r.2)))
 else
 (zh1 r.1 room).bind fun r2 =>
 bif ltI j.1 r2.1 then
 bif Nat.beq (List.length j4) (List.length j4) then
 some (.inl (room, W64 (t26 + 1), r2, j2, j3, j4))
 else none
 else
 bif Nat.beq (List.length j4) (List.length j4) then
 some (.inl (room, W64 (t26 + 1), j, j2, j3, j4))
 else none
 else
 bif Nat.beq (List.length j4) (List.length j4) then
 some (.inr (.inl (j, j2, j3, j4)))
 else none
def z4f (s : z9x) : Option (z9x ⊕ zdo) := zph s.1 s.2.1 s.2.2.1 s.2.2.2.1 s.2.2.2.2.1 s.2.2.2.2.2
theorem zns : SoundD Try.prog (.loop (subC (bodyC Try.f10) [1, 1, 1, 1, 0, 1, 0, 0])) (loopD z4e.xe z4c (loopC z4f)) :=
 z0y (S := z4e.xe) (X := z4c) zkb (h := .no) (z0d [] (by kernel_rfl) trivial) (z0a z4e) zmw z4f (fun s => by kernel_rfl)
def zb4 : Shp := ⟨138, 0, [(5, .pt 0 r6 [])], [.var 75 (.ag [.c .nilp, .d c4, .wn 1 (.int .u8), .d (.int .i64), .d .bool]), .row 5 (.int .u8)]⟩
def zat : Shp := ⟨138, 0, [(2, .c .nilp), (3, .d c5), (4, .d (.int .i64))], []⟩
def z2q : XS := .or (.exit 2) zb4.xe (.one .ret zat.xe)
theorem zis : z2q.OK := XS.or_ok (z0a zb4) (XS.one_ok (z0a zat))
def z2s : Shp := ⟨138, 0, [(0, .c .nilp), (5, .pt 0 r6 []), (12, .d (.int .i64))], [.var 75 (.ag [.c .nilp, .d c4, .wn 1 (.int .u8), .d (.int .i64), .d .bool]), .row 5 (.int .u8)]⟩
abbrev z7o := Int × T2 × Int × Bool × (List Int)
abbrev zbx := (T2 × Int × Bool × (List Int)) ⊕ ((List (List Int)) × Int)
def zme (i : Int) (j : T2) (j2 : Int) (j3 : Bool) (j4 : List Int) : Option (z7o ⊕ zbx) :=
 bif ltI (W64 (i * 256)) j.2.2 then
 winK j4 0 (List.length j4) fun w =>
 (zkn j w j2 j3 j.2.1 i).bind fun r =>
 (zj9 r).bind fun r2 =>
 bif neI r2.2 0 then
 some (.inr (.inr ([], r2.2)))
 else
 bif Nat.beq (List.length j4) (List.length j4) then
 appG (List.length j4) (List.length r2.1) 1 fun _ =>
 bif Nat.beq (List.length (j4 ++ r2.1)) (List.length (j4 ++ r2.1)) then
 some (.inl (W64 (i + 1), j, j2, j3, j4 ++ r2.1))
 else none
 else none
 else
 bif Nat.beq (List.length j4) (List.length j4) then
 some (.inr (.inl (j, j2, j3, j4)))
 else none
def z2x (s : z7o) : Option (z7o ⊕ zbx) := zme s.1 s.2.1 s.2.2.1 s.2.2.2.1 s.2.2.2.2
theorem zkv : SoundD Try.prog (.loop (subC (bodyC Try.f10) [1, 1, 1, 1, 1, 1, 0, 1, 0, 0])) (loopD z2s.xe z2q (loopC z2x)) :=
 z0y (S := z2s.xe) (X := z2q) zkb (h := .no) (z0d [] (by kernel_rfl) trivial) (z0a z2s) zis z2x (fun s => by kernel_rfl)
def zsq : Shp := ⟨1, 0, [(0, .tu [.c .nilp, .d c5, .d (.int .i64)])], []⟩
def zs2 : Shp := ⟨1, 0, [(0, .tu [.pt 0 r6 [], .wn 1 (.sl (.int .u8)), .d (.int .i64)])], [.var 75 (.ag [.c .nilp, .d c4, .d (.sl (.int .u8)), .d (.int .i64), .d .bool]), .row 34 (.sl (.int .u8))]⟩
def zwc : XS := .or .ret zsq.xe (.one .ret zs2.xe)
theorem z14z : zwc.OK := XS.or_ok (z0a zsq) (XS.one_ok (z0a zs2))
def zl5  : Option (((List (List Int)) × Int) ⊕ (Int × T2 × (List Int) × Int × Bool × (List (List Int)))) :=
 (ziy).bind fun r =>
 bif ltI r 6 then
 some (.inl ([], 1))
 else
 (za0).bind fun r2 =>
 bif Nat.beq 0 (List.length ([] : List Int)) then
 (loopC z4f (W64 (r2 * 256), 0, (0, 0, 0), 0, false, ([] : List Int))).bind fun o =>
 Sum.elim (fun y =>
 bif eqI y.1.1 0 then
 bif Nat.beq (List.length y.2.2.2) (List.length y.2.2.2) then
 (zmt (1, 0, 0) y.1 y.2.1 y.2.2.1 y.2.2.2).bind fun r3 =>
 bif neI r3.1 0 then
 some (.inl ([], r3.1))
 else
 bif Nat.beq 0 (List.length ([] : List (List Int))) then
 some (.inr (0, r3.2.1, r3.2.2.1, r3.2.2.2.1, r3.2.2.2.2, ([] : List (List Int))))
 else none
 else none
 else
 bif Nat.beq (List.length y.2.2.2) (List.length y.2.2.2) then
 (loopC z2x (0, y.1, y.2.1, y.2.2.1, y.2.2.2)).bind fun o2 =>
 Sum.elim (fun y3 =>
 bif subOk 0 y3.1.2.2 (List.length y3.2.2.2) && eqI y3.1.2.2 y3.1.2.2 then
 (zfh (List.replicate y3.1.2.2.toNat true) y3.2.2.2).bind fun r4 =>
 bif neI r4.1 0 then
 some (.inl ([], r4.1))
 else
 z0i (List.length r4.2.2) (
 winK r4.2.1 0 y3.1.2.2.toNat fun w =>
 bif Nat.beq (List.length r4.2.2) (List.length r4.2.2) then
 some (.inr (0, y3.1, w, (List.length r4.2.2 : Nat), y3.2.2.1, r4.2.2))
 else none)
 else none) (fun y4 =>
 some (.inl (y4.1, y4.2))) o2
 else none) (fun y2 =>
 some (.inl (y2.1, y2.2))) o
 else none
def zo0 : Sig := ⟨10, [.c .nilp], [], 0, zwc⟩
def zmk (x : Unit) : Option (((List (List Int)) × Int) ⊕ (Int × T2 × (List Int) × Int × Bool × (List (List Int)))) := zl5 
theorem zu2 : FnOK Try.prog zo0 zmk :=
 fn_ok zkb (h := (.two .no (.two .no (.two .no (.two .no (.two (.two .no (.over (loopD z4e.xe z4c (loopC z4f)))) (.two .no (.two (.two .no (.over (loopD z2s.xe z2q (loopC z2x)))) .no)))))))) Try.func10 (z0d [.den (.loop (subC (bodyC Try.f10) [1, 1, 1, 1, 0, 1, 0, 0])) (loopD z4e.xe z4c (loopC z4f)), .den (.loop (subC (bodyC Try.f10) [1, 1, 1, 1, 1, 1, 0, 1, 0, 0])) (loopD z2s.xe z2q (loopC z2x))] (by kernel_rfl) ⟨zns, zkv, trivial⟩) (by kernel_rfl) z14z (fun x => by kernel_rfl)
def zx0 : Env := ⟨[], [], []⟩
theorem zto : EnvsOK Try.prog zx0 := ⟨z0j _, z0g _, z0f _⟩
def zh4 : Shp := ⟨1, 0, [(0, .d .bool)], []⟩
def zk5 : XS := .one .ret zh4.xe
theorem zsh : zk5.OK := XS.one_ok (z0a zh4)
def zeg (j : T2) (j2 : List Int) (j3 : Int) (j4 : Bool) : Option ((Bool)) :=
 some j4
def zcr : Sig := ⟨15, [.rf (.ag [.c .nilp, .d c4, .d (.sl (.int .u8)), .d (.int .i64), .d .bool])], [], 0, zk5⟩
def zc6 (x : T2 × (List Int) × Int × Bool) : Option ((Bool)) := zeg x.1 x.2.1 x.2.2.1 x.2.2.2
theorem zhv : FnOK Try.prog zcr zc6 :=
 fn_ok zto (h := .no) Try.func15 (z0d [] (by kernel_rfl) trivial) (by kernel_rfl) zsh (fun x => by kernel_rfl)
def z1hw : Env := ⟨[], [], []⟩
theorem z10e : EnvsOK Try.prog z1hw := ⟨z0j _, z0g _, z0f _⟩
def zbj : Shp := ⟨41, 0, [(4, .wn 0 (.int .u8)), (6, .d (.sl (.int .u8))), (9, .d c5), (10, .d (.int .i64)), (11, .d (.int .i64))], [.row 5 (.int .u8)]⟩
def zbf : Shp := ⟨41, 0, [(2, .d (.sl (.int .u8))), (3, .d (.int .i64))], []⟩
def z7x : XS := .or .normal zbj.xe (.one .ret zbf.xe)
theorem zj4 : z7x.OK := XS.or_ok (z0a zbj) (XS.one_ok (z0a zbf))
def zks : Shp := ⟨41, 0, [(4, .wn 0 (.int .u8))], [.row 5 (.int .u8)]⟩
def zkt : Shp := ⟨41, 0, [(2, .d (.sl (.int .u8))), (3, .d (.int .i64))], []⟩
def z8e : XS := .or (.exit 0) zks.xe (.one .ret zkt.xe)
theorem zuo : z8e.OK := XS.or_ok (z0a zks) (XS.one_ok (z0a zkt))
def z7y : Shp := ⟨41, 0, [(4, .wn 0 (.int .u8)), (9, .d c5), (10, .d (.int .i64)), (11, .d (.int .i64))], [.row 5 (.int .u8)]⟩
abbrev zeh := (List (List Int)) × Int × Int × (List Int)
abbrev zn3 := ((List Int)) ⊕ ((List Int) × Int)
def z8b (t9 : List (List Int)) (t10 : Int) (t11 : Int) (out : List Int) : Option (zeh ⊕ zn3) :=
 bif ltI t11 t10 then
 (idxI t9 t11).bind fun x =>
 (show Option (((List Int) × (List (List Int)) × Int × Int × (List Int)) ⊕ ((List Int) × Int)) from
 z0i (List.length x) (
 bif ltI 65535 (List.length x : Nat) then
 some (.inr ([], 4))
 else
 bif ltI (List.length x : Nat) 255 then
 bif Nat.beq (List.length out) (List.length out) then
 appG (List.length out) (List.length ([WU8 ((List.length x : Nat))] : List Int)) 1 fun _ =>
 bif Nat.beq (List.length (out ++ ([WU8 ((List.length x : Nat))] : List Int))) (List.length (out ++ ([WU8 ((List.length x : Nat))] : List Int))) then
 some (.inl ((x, t9, t10, t11, out ++ ([WU8 ((List.length x : Nat))] : List Int))))
 else none
 else none
 else
 bif Nat.beq (List.length out) (List.length out) then
 appG (List.length out) (List.length ([255, WU8 (shI .shr .i64 (List.length x : Nat) 8), WU8 ((List.length x : Nat))] : List Int)) 1 fun _ =>
 bif Nat.beq (List.length (out ++ ([255, WU8 (shI .shr .i64 (List.length x : Nat) 8), WU8 ((List.length x : Nat))] : List Int))) (List.length (out ++ ([255, WU8 (shI .shr .i64 (List.length x : Nat) 8), WU8 ((List.length x : Nat))] : List Int))) then
 some (.inl ((x, t9, t10, t11, out ++ ([255, WU8 (shI .shr .i64 (List.length x : Nat) 8), WU8 ((List.length x : Nat))] : List Int))))
 else none
 else none)).bind fun j =>
 Sum.elim (fun y =>
 bif Nat.beq (List.length y.2.2.2.2) (List.length y.2.2.2.2) then
 appG (List.length y.2.2.2.2) (List.length y.1) 1 fun _ =>
 bif Nat.beq (List.length (y.2.2.2.2 ++ y.1)) (List.length (y.2.2.2.2 ++ y.1)) then
 some (.inl (y.2.1, y.2.2.1, W64 (y.2.2.2.1 + 1), y.2.2.2.2 ++ y.1))
 else none
 else none) (fun y2 =>
 some (.inr (.inr (y2.1, y2.2)))) j
 else
 bif Nat.beq (List.length out) (List.length out) then
 some (.inr (.inl out))
 else none
def z5r (s : zeh) : Option (zeh ⊕ zn3) := z8b s.1 s.2.1 s.2.2.1 s.2.2.2
theorem zwi : SoundD Try.prog (.loop (subC (bodyC Try.f58) [1, 1, 0, 1, 0, 0])) (loopD z7y.xe z8e (loopC z5r)) :=
 z0y (S := z7y.xe) (X := z8e) z10e (h := (.two .no (.two .no (.two (.two .no (.join (fun _ => z7x) .no .no)) .no)))) (z0d [.xs (fun _ => z7x)] (by kernel_rfl) ⟨(za1 zj4), trivial⟩) (z0a z7y) zuo z5r (fun s => by kernel_rfl)
def z11u : Shp := ⟨1, 0, [(0, .tu [.d (.sl (.int .u8)), .d (.int .i64)])], []⟩
def z17r : XS := .one .ret z11u.xe
theorem z1cb : z17r.OK := XS.one_ok (z0a z11u)
def zv6 (fields : List (List Int)) : Option (((List Int) × Int)) :=
 z0i (List.length fields) (
 bif Nat.beq (List.length ([] : List Int)) (List.length ([] : List Int)) then
 (loopC z5r (fields, (List.length fields : Nat), 0, ([] : List Int))).bind fun o =>
 Sum.elim (fun y =>
 winK y 0 (List.length y) fun w =>
 some (w, 0)) (fun y2 =>
 some (y2.1, y2.2)) o
 else none)
def z17i : Sig := ⟨58, [.d c5], [], 0, z17r⟩
def z14k (x : (List (List Int))) : Option (((List Int) × Int)) := zv6 x
theorem z1gd : FnOK Try.prog z17i z14k :=
 fn_ok z10e (h := (.two .no (.two (.reg [0] []) (.two (.two .no (.over (loopD z7y.xe z8e (loopC z5r)))) .no)))) Try.func58 (z0d [.den (.loop (subC (bodyC Try.f58) [1, 1, 0, 1, 0, 0])) (loopD z7y.xe z8e (loopC z5r))] (by kernel_rfl) ⟨zwi, trivial⟩) (by kernel_rfl) z1cb (fun x => by kernel_rfl)
def z1hd : Env := ⟨[(entQ z17x z14c)], [], []⟩
theorem z1dk : EnvsOK Try.prog z1hd := ⟨z0c (z0e z1c0) (z0j _), z0g _, z0f _⟩
def z11q : Shp := ⟨1, 0, [(0, .wn 0 (.int .u8))], [.row 5 (.int .u8)]⟩
def z16t : XS := .one .ret z11q.xe
theorem z1ce : z16t.OK := XS.one_ok (z0a z11q)
def zum (b : List Int) : Option (((List Int))) :=
 (z11m b).bind fun r =>
 appG (List.length ([] : List Int)) (List.length b) 1 fun _ =>
 bif Nat.beq (List.length b) (List.length b) then
 appG (List.length b) (List.length ([WU8 (shI .shr .u32 r 24), WU8 (shI .shr .u32 r 16), WU8 (shI .shr .u32 r 8), WU8 (r)] : List Int)) 1 fun _ =>
 bif Nat.beq (List.length (b ++ ([WU8 (shI .shr .u32 r 24), WU8 (shI .shr .u32 r 16), WU8 (shI .shr .u32 r 8), WU8 (r)] : List Int))) (List.length (b ++ ([WU8 (shI .shr .u32 r 24), WU8 (shI .shr .u32 r 16), WU8 (shI .shr .u32 r 8), WU8 (r)] : List Int))) then
 some (b ++ ([WU8 (shI .shr .u32 r 24), WU8 (shI .shr .u32 r 16), WU8 (shI .shr .u32 r 8), WU8 (r)] : List Int))
 else none
 else none
def z17b : Sig := ⟨59, [.d (.sl (.int .u8))], [], 0, z16t⟩
def z14q (x : (List Int)) : Option (((List Int))) := zum x
theorem z1g7 : FnOK Try.prog z17b z14q :=
 fn_ok z1dk (h := (.two .no (.two .no (.two (.reg [2] []) .no)))) Try.func59 (z0d [] (by kernel_rfl) trivial) (by kernel_rfl) z1ce (fun x => by kernel_rfl)
def z1e5 : Env := ⟨[(entQ z17i z14k)], [(entP z17b z14q)], []⟩
theorem znq : EnvsOK Try.prog z1e5 := ⟨z0c (z0e z1gd) (z0j _), z0l (z0t z1g7) (z0g _), z0f _⟩
def zhl : Shp := ⟨48, 0, [(0, .d c5), (1, .d (.int .i64)), (6, .wn 0 (.int .u8))], [.row 5 (.int .u8)]⟩
def zh3 : Shp := ⟨48, 0, [(4, .d (.sl (.int .u8))), (5, .d (.int .i64))], []⟩
def z6r : XS := .or (.exit 0) zhl.xe (.one .ret zh3.xe)
theorem zs3 : z6r.OK := XS.or_ok (z0a zhl) (XS.one_ok (z0a zh3))
def z6n : Shp := ⟨48, 0, [(0, .d c5), (1, .d (.int .i64)), (6, .wn 0 (.int .u8)), (13, .d c5), (14, .d (.int .i64)), (15, .d (.int .i64))], [.row 5 (.int .u8)]⟩
abbrev zcm := (List (List Int)) × Int × (List (List Int)) × Int × Int × (List Int)
abbrev zke := ((List (List Int)) × Int × (List Int)) ⊕ ((List Int) × Int)
def z6u (records : List (List Int)) (room : Int) (t13 : List (List Int)) (t14 : Int) (t15 : Int) (out : List Int) : Option (zcm ⊕ zke) :=
 bif ltI t15 t14 then
 (idxI t13 t15).bind fun x =>
 z0i (List.length x) (
 bif ltI 65531 (List.length x : Nat) then
 some (.inr (.inr ([], 4)))
 else
 bif Nat.beq (List.length out) (List.length out) then
 some (.inl (records, room, t13, t14, W64 (t15 + 1), out))
 else none)
 else
 bif Nat.beq (List.length out) (List.length out) then
 some (.inr (.inl (records, room, out)))
 else none
def z4s (s : zcm) : Option (zcm ⊕ zke) := z6u s.1 s.2.1 s.2.2.1 s.2.2.2.1 s.2.2.2.2.1 s.2.2.2.2.2
theorem ztx : SoundD Try.prog (.loop (subC (bodyC Try.f36) [1, 1, 0, 1, 0, 0])) (loopD z6n.xe z6r (loopC z4s)) :=
 z0y (S := z6n.xe) (X := z6r) znq (h := .no) (z0d [] (by kernel_rfl) trivial) (z0a z6n) zs3 z4s (fun s => by kernel_rfl)
def zfi : Shp := ⟨48, 0, [(6, .wn 0 (.int .u8))], [.row 5 (.int .u8)]⟩
def zez : Shp := ⟨48, 0, [(4, .d (.sl (.int .u8))), (5, .d (.int .i64))], []⟩
def z5m : XS := .or (.exit 2) zfi.xe (.one .ret zez.xe)
theorem zq7 : z5m.OK := XS.or_ok (z0a zfi) (XS.one_ok (z0a zez))
def z5l : Shp := ⟨48, 0, [(1, .d (.int .i64)), (6, .wn 0 (.int .u8)), (23, .d c5), (24, .d (.int .i64)), (25, .d (.int .i64))], [.row 5 (.int .u8)]⟩
abbrev zbo := Int × (List (List Int)) × Int × Int × (List Int)
abbrev zhj := ((List Int)) ⊕ ((List Int) × Int)
def z5j (room : Int) (t23 : List (List Int)) (t24 : Int) (t25 : Int) (out : List Int) : Option (zbo ⊕ zhj) :=
 bif ltI t25 t24 then
 (idxI t23 t25).bind fun x =>
 z0i (List.length out) (
 bif ltI room (List.length out : Nat) then
 some (.inr (.inr ([], 5)))
 else
 (zum x).bind fun r =>
 winK r 0 (List.length r) fun w =>
 (zv6 ([w] : List (List Int))).bind fun r2 =>
 bif neI r2.2 0 then
 some (.inr (.inr ([], r2.2)))
 else
 bif Nat.beq (List.length out) (List.length out) then
 appG (List.length out) (List.length r2.1) 1 fun _ =>
 bif Nat.beq (List.length (out ++ r2.1)) (List.length (out ++ r2.1)) then
 some (.inl (room, t23, t24, W64 (t25 + 1), out ++ r2.1))
 else none
 else none)
 else
 bif Nat.beq (List.length out) (List.length out) then
 some (.inr (.inl out))
 else none
def z5b (s : zbo) : Option (zbo ⊕ zhj) := z5j s.1 s.2.1 s.2.2.1 s.2.2.2.1 s.2.2.2.2
theorem zqz : SoundD Try.prog (.loop (subC (bodyC Try.f36) [1, 1, 1, 0, 1, 0, 0])) (loopD z5l.xe z5m (loopC z5b)) :=
 z0y (S := z5l.xe) (X := z5m) znq (h := (.two .no (.two .no (.two (.two .no (.two .no (.two (.reg [2000002] []) .no))) .no)))) (z0d [] (by kernel_rfl) trivial) (z0a z5l) zq7 z5b (fun s => by kernel_rfl)
def zwa : Shp := ⟨1, 0, [(0, .tu [.d (.sl (.int .u8)), .d (.int .i64)])], []⟩
def z10z : XS := .one .ret zwa.xe
theorem z18x : z10z.OK := XS.one_ok (z0a zwa)
def zcw (records : List (List Int)) (room : Int) : Option (((List Int) × Int)) :=
 z0i (List.length records) (
 bif Nat.beq 0 (List.length ([] : List Int)) then
 (loopC z4s (records, room, records, (List.length records : Nat), 0, ([] : List Int))).bind fun o =>
 Sum.elim (fun y =>
 z0i (List.length y.1) (
 bif Nat.beq (List.length y.2.2) (List.length y.2.2) then
 (loopC z5b (y.2.1, y.1, (List.length y.1 : Nat), 0, y.2.2)).bind fun o2 =>
 Sum.elim (fun y3 =>
 winK y3 0 (List.length y3) fun w =>
 some (w, 0)) (fun y4 =>
 some (y4.1, y4.2)) o2
 else none)) (fun y2 =>
 some (y2.1, y2.2)) o
 else none)
def zfd : Sig := ⟨36, [.d c5, .d (.int .i64)], [], 0, z10z⟩
def zdp (x : (List (List Int)) × Int) : Option (((List Int) × Int)) := zcw x.1 x.2
theorem zi7 : FnOK Try.prog zfd zdp :=
 fn_ok znq (h := (.two .no (.two .no (.two (.two .no (.over (loopD z6n.xe z6r (loopC z4s)))) (.two (.two .no (.over (loopD z5l.xe z5m (loopC z5b)))) .no))))) Try.func36 (z0d [.den (.loop (subC (bodyC Try.f36) [1, 1, 0, 1, 0, 0])) (loopD z6n.xe z6r (loopC z4s)), .den (.loop (subC (bodyC Try.f36) [1, 1, 1, 0, 1, 0, 0])) (loopD z5l.xe z5m (loopC z5b))] (by kernel_rfl) ⟨ztx, zqz, trivial⟩) (by kernel_rfl) z18x (fun x => by kernel_rfl)
def z19b : Env := ⟨[], [(entP z12w zzi)], []⟩
theorem zhq : EnvsOK Try.prog z19b := ⟨z0j _, z0l (z0t z19i) (z0g _), z0f _⟩
def zeq : Shp := ⟨36, 0, [(0, .d c5), (3, .d (.int .i64))], []⟩
def z4v : XS := .one (.exit 0) zeq.xe
theorem zp3 : z4v.OK := XS.one_ok (z0a zeq)
def z4t : Shp := ⟨36, 0, [(0, .d c5), (3, .d (.int .i64)), (9, .d c5), (10, .d (.int .i64)), (11, .d (.int .i64))], []⟩
abbrev zau := (List (List Int)) × Int × (List (List Int)) × Int × Int
abbrev zg7 := ((List (List Int)) × Int)
def zsc (slices : List (List Int)) (size : Int) (t9 : List (List Int)) (t10 : Int) (t11 : Int) : Option (zau ⊕ zg7) :=
 bif ltI t11 t10 then
 (idxI t9 t11).bind fun x =>
 z0i (List.length x) (
 bif ltI (W64 (size + (List.length x : Nat))) 0 then
 none
 else
 some (.inl (slices, W64 (size + (List.length x : Nat)), t9, t10, W64 (t11 + 1))))
 else
 some (.inr (slices, size))
def z3l (s : zau) : Option (zau ⊕ zg7) := zsc s.1 s.2.1 s.2.2.1 s.2.2.2.1 s.2.2.2.2
theorem zq1 : SoundD Try.prog (.loop (subC (bodyC Try.f38) [1, 1, 0, 1, 0, 0])) (loopD z4t.xe z4v (loopC z3l)) :=
 z0y (S := z4t.xe) (X := z4v) zhq (h := .no) (z0d [] (by kernel_rfl) trivial) (z0a z4t) zp3 z3l (fun s => by kernel_rfl)
def zc8 : Shp := ⟨36, 0, [(6, .wn 0 (.int .u8))], [.row 5 (.int .u8)]⟩
def z3t : XS := .one (.exit 2) zc8.xe
theorem zmh : z3t.OK := XS.one_ok (z0a zc8)
def z3v : Shp := ⟨36, 0, [(6, .wn 0 (.int .u8)), (25, .d c5), (26, .d (.int .i64)), (27, .d (.int .i64))], [.row 5 (.int .u8)]⟩
abbrev z9e := (List (List Int)) × Int × Int × (List Int)
abbrev zd3 := ((List Int))
def zou (t25 : List (List Int)) (t26 : Int) (t27 : Int) (newslice : List Int) : Option (z9e ⊕ zd3) :=
 bif ltI t27 t26 then
 (idxI t25 t27).bind fun x =>
 bif Nat.beq (List.length newslice) (List.length newslice) then
 appG (List.length newslice) (List.length x) 1 fun _ =>
 bif Nat.beq (List.length (newslice ++ x)) (List.length (newslice ++ x)) then
 some (.inl (t25, t26, W64 (t27 + 1), newslice ++ x))
 else none
 else none
 else
 bif Nat.beq (List.length newslice) (List.length newslice) then
 some (.inr newslice)
 else none
def z2k (s : z9e) : Option (z9e ⊕ zd3) := zou s.1 s.2.1 s.2.2.1 s.2.2.2
theorem zna : SoundD Try.prog (.loop (subC (bodyC Try.f38) [1, 1, 1, 1, 0, 1, 0, 0])) (loopD z3v.xe z3t (loopC z2k)) :=
 z0y (S := z3v.xe) (X := z3t) zhq (h := .no) (z0d [] (by kernel_rfl) trivial) (z0a z3v) zmh z2k (fun s => by kernel_rfl)
def zqh : Shp := ⟨1, 0, [(0, .d (.sl (.int .u8)))], []⟩
def zue : XS := .one .ret zqh.xe
theorem z13m : zue.OK := XS.one_ok (z0a zqh)
def zdv (slices : List (List Int)) : Option (((List Int))) :=
 z0i (List.length slices) (
 (loopC z3l (slices, 0, slices, (List.length slices : Nat), 0)).bind fun o =>
 (z13r o.2).bind fun r =>
 z0i (List.length o.1) (
 bif Nat.beq (List.length r) (List.length r) then
 (loopC z2k (o.1, (List.length o.1 : Nat), 0, r)).bind fun o2 =>
 winK o2 0 (List.length o2) fun w =>
 some w
 else none))
def zmj : Sig := ⟨38, [.d c5], [], 0, zue⟩
def zk8 (x : (List (List Int))) : Option (((List Int))) := zdv x
theorem zsd : FnOK Try.prog zmj zk8 :=
 fn_ok zhq (h := (.two .no (.two .no (.two (.two .no (.over (loopD z4t.xe z4v (loopC z3l)))) (.two .no (.two (.two .no (.over (loopD z3v.xe z3t (loopC z2k)))) .no)))))) Try.func38 (z0d [.den (.loop (subC (bodyC Try.f38) [1, 1, 0, 1, 0, 0])) (loopD z4t.xe z4v (loopC z3l)), .den (.loop (subC (bodyC Try.f38) [1, 1, 1, 1, 0, 1, 0, 0])) (loopD z3v.xe z3t (loopC z2k))] (by kernel_rfl) ⟨zq1, zna, trivial⟩) (by kernel_rfl) z13m (fun x => by kernel_rfl)
def zxv : Env := ⟨[(entQ z7k z6o), (entQ zgl zf7), (entQ zb9 zao), (entQ zaa z9p)], [(entP zk6 zht)], []⟩
theorem zi1 : EnvsOK Try.prog zxv := ⟨z0c (z0e z8p) (z0c (z0e zod) (z0c (z0e zeb) (z0c (z0e zce) (z0j _)))), z0l (z0t zux) (z0g _), z0f _⟩
def zbh : Shp := ⟨99, 1, [(0, .pt 0 r6 []), (1, .d (.int .i64)), (3, .d (.sl (.int .u8))), (4, .d (.int .i64))], [.var 75 (.ag [.c .nilp, .d c4, .d (.sl (.int .u8)), .d (.int .i64), .d .bool])]⟩
def zbm : Shp := ⟨99, 1, [(10, .d (.int .i64))], [.var 75 (.ag [.c .nilp, .d c4, .d (.sl (.int .u8)), .d (.int .i64), .d .bool])]⟩
def z3f : XS := .or (.exit 0) zbh.xe (.one .ret zbm.xe)
theorem zkc : z3f.OK := XS.or_ok (z0a zbh) (XS.one_ok (z0a zbm))
def z3e : Shp := ⟨99, 1, [(0, .pt 0 r6 []), (1, .d (.int .i64)), (3, .d (.sl (.int .u8))), (4, .d (.int .i64)), (11, .d (.int .i64))], [.var 75 (.ag [.c .nilp, .d c4, .d (.sl (.int .u8)), .d (.int .i64), .d .bool])]⟩
abbrev z8a := Int × (List Int) × Int × Int × T2 × (List Int) × Int × Bool
abbrev zcc := (Int × (List Int) × Int × T2 × (List Int) × Int × Bool) ⊕ (Int × T2 × (List Int) × Int × Bool)
def zmy (side : Int) (all : List Int) (count : Int) (i : Int) (j : T2) (j2 : List Int) (j3 : Int) (j4 : Bool) : Option (z8a ⊕ zcc) :=
 z0i (List.length all) (
 bif ltI (W64 (i * 256)) (List.length all : Nat) then
 bif subOk (W64 (i * 256)) (List.length all : Nat) (List.length all) then
 bif Nat.ble 256 (List.length (List.replicate 256 (0 : Int))) then
 (zkn j j2 j3 j4 side i).bind fun r =>
 winK (cpyL (List.replicate 256 (0 : Int)) 0 256 (subL all (W64 (i * 256)) (List.length all : Nat))) 0 256 fun w =>
 (zcx r w).bind fun r2 =>
 bif neI r2 0 then
 some (.inr (.inr (r2, j, j2, j3, true)))
 else
 some (.inl (side, all, count, W64 (i + 1), j, j2, j3, j4))
 else none
 else none
 else
 some (.inr (.inl (side, all, count, j, j2, j3, j4))))
def z3d (s : z8a) : Option (z8a ⊕ zcc) := zmy s.1 s.2.1 s.2.2.1 s.2.2.2.1 s.2.2.2.2.1 s.2.2.2.2.2.1 s.2.2.2.2.2.2.1 s.2.2.2.2.2.2.2
theorem zkx : SoundD Try.prog (.loop (subC (bodyC Try.f37) [1, 1, 0, 1, 0, 0])) (loopD z3e.xe z3f (loopC z3d)) :=
 z0y (S := z3e.xe) (X := z3f) zi1 (h := .no) (z0d [] (by kernel_rfl) trivial) (z0a z3e) zkc z3d (fun s => by kernel_rfl)
def zi9 : Shp := ⟨1, 1, [(0, .d (.int .i64))], [.var 75 (.ag [.c .nilp, .d c4, .d (.sl (.int .u8)), .d (.int .i64), .d .bool])]⟩
def zlm : XS := .one .ret zi9.xe
theorem ztp : zlm.OK := XS.one_ok (z0a zi9)
def zfn (side : Int) (there : Int) (all : List Int) (count : Int) (j : T2) (j2 : List Int) (j3 : Int) (j4 : Bool) : Option ((Int × T2 × (List Int) × Int × Bool)) :=
 bif eqI j.1 4611686018427387904 then
 some (5, j, j2, j3, j4)
 else
 z0i (List.length all) (
 (za0).bind fun r =>
 bif ltI (W64 (r * 256)) (List.length all : Nat) then
 some (5, j, j2, j3, j4)
 else
 (loopC z3d (side, all, count, W64 (Int.tdiv there 256), j, j2, j3, j4)).bind fun o =>
 Sum.elim (fun y =>
 (zbb).bind fun r2 =>
 bif neI r2 0 then
 some (r2, y.2.2.2.1, y.2.2.2.2.1, y.2.2.2.2.2.1, true)
 else
 z0i (List.length y.2.1) (
 (zmp (WU64 (y.2.2.2.1.1 + 1), y.1, (List.length y.2.1 : Nat)) y.2.2.2.1 y.2.2.2.2.1 y.2.2.2.2.2.1 y.2.2.2.2.2.2).bind fun r3 =>
 bif neI r3.1 0 then
 some (r3.1, r3.2.1, r3.2.2.1, r3.2.2.2.1, r3.2.2.2.2)
 else
 some (0, r3.2.1, y.2.1, y.2.2.1, r3.2.2.2.2))) (fun y2 =>
 some (y2.1, y2.2.1, y2.2.2.1, y2.2.2.2.1, y2.2.2.2.2)) o)
def zde : Sig := ⟨37, [.pt 0 r6 [], .d (.int .i64), .d (.int .i64), .d (.sl (.int .u8)), .d (.int .i64)], [.var 75 (.ag [.c .nilp, .d c4, .d (.sl (.int .u8)), .d (.int .i64), .d .bool])], 1, zlm⟩
def zcu (x : Int × Int × (List Int) × Int × T2 × (List Int) × Int × Bool) : Option ((Int × T2 × (List Int) × Int × Bool)) := zfn x.1 x.2.1 x.2.2.1 x.2.2.2.1 x.2.2.2.2.1 x.2.2.2.2.2.1 x.2.2.2.2.2.2.1 x.2.2.2.2.2.2.2
theorem zjb : FnOK Try.prog zde zcu :=
 fn_ok zi1 (h := (.two .no (.two .no (.two (.two .no (.over (loopD z3e.xe z3f (loopC z3d)))) .no)))) Try.func37 (z0d [.den (.loop (subC (bodyC Try.f37) [1, 1, 0, 1, 0, 0])) (loopD z3e.xe z3f (loopC z3d))] (by kernel_rfl) ⟨zkx, trivial⟩) (by kernel_rfl) ztp (fun x => by kernel_rfl)
def zyb : Env := ⟨[(entQ zcr zc6), (entQ z7k z6o), (entQ zfd zdp), (entQ zmj zk8)], [(entP zde zcu)], []⟩
theorem zus : EnvsOK Try.prog zyb := ⟨z0c (z0e zhv) (z0c (z0e z8p) (z0c (z0e zi7) (z0c (z0e zsd) (z0j _)))), z0l (z0t zjb) (z0g _), z0f _⟩
def zi4 : Shp := ⟨1, 1, [(0, .d (.int .i64))], [.var 75 (.ag [.c .nilp, .d c4, .d (.sl (.int .u8)), .d (.int .i64), .d .bool])]⟩
def zln : XS := .one .ret zi4.xe
theorem ztv : zln.OK := XS.one_ok (z0a zi4)
def zfq (records : List (List Int)) (j : T2) (j2 : List Int) (j3 : Int) (j4 : Bool) : Option ((Int × T2 × (List Int) × Int × Bool)) :=
 (zeg j j2 j3 j4).bind fun r =>
 bif r then
 some (3, j, j2, j3, j4)
 else
 (za0).bind fun r2 =>
 (zcw records (W64 (r2 * 256))).bind fun r3 =>
 bif neI r3.2 0 then
 some (r3.2, j, j2, j3, j4)
 else
 z0i (List.length records) (
 bif eqI (List.length records : Nat) 0 then
 some (r3.2, j, j2, j3, j4)
 else
 z0i (List.length j2) (
 (zdv ([j2, r3.1] : List (List Int))).bind fun r4 =>
 z0i (List.length records) (
 (zfn j.2.1 (List.length j2 : Nat) r4 (W64 (j3 + (List.length records : Nat))) j j2 j3 j4).bind fun r5 =>
 some (r5.1, r5.2.1, r5.2.2.1, r5.2.2.2.1, r5.2.2.2.2))))
def zdd : Sig := ⟨11, [.pt 0 r6 [], .d c5], [.var 75 (.ag [.c .nilp, .d c4, .d (.sl (.int .u8)), .d (.int .i64), .d .bool])], 1, zln⟩
def zcv (x : (List (List Int)) × T2 × (List Int) × Int × Bool) : Option ((Int × T2 × (List Int) × Int × Bool)) := zfq x.1 x.2.1 x.2.2.1 x.2.2.2.1 x.2.2.2.2
theorem zkh : FnOK Try.prog zdd zcv :=
 fn_ok zus (h := (.two .no (.two .no (.two .no (.two .no (.two (.reg [] [25, 0, 1]) .no)))))) Try.func11 (z0d [] (by kernel_rfl) trivial) (by kernel_rfl) ztv (fun x => by kernel_rfl)
def z10a : Env := ⟨[(entQ z7k z6o)], [], []⟩
theorem zwf : EnvsOK Try.prog z10a := ⟨z0c (z0e z8p) (z0j _), z0g _, z0f _⟩
def zjt : Shp := ⟨1, 0, [(0, .d (.int .i64))], []⟩
def zn2 : XS := .one .ret zjt.xe
theorem zvf : zn2.OK := XS.one_ok (z0a zjt)
def z4i (j : T2) (j2 : List Int) (j3 : Int) (j4 : Bool) : Option ((Int)) :=
 (za0).bind fun r =>
 z0i (List.length j2) (
 some (W64 ((W64 (r * 256)) - (List.length j2 : Nat))))
def ze4 : Sig := ⟨13, [.rf (.ag [.c .nilp, .d c4, .d (.sl (.int .u8)), .d (.int .i64), .d .bool])], [], 0, zn2⟩
def zd8 (x : T2 × (List Int) × Int × Bool) : Option ((Int)) := z4i x.1 x.2.1 x.2.2.1 x.2.2.2
theorem zll : FnOK Try.prog ze4 zd8 :=
 fn_ok zwf (h := .no) Try.func13 (z0d [] (by kernel_rfl) trivial) (by kernel_rfl) zvf (fun x => by kernel_rfl)
def z11s : Env := ⟨[], [], []⟩
theorem zya : EnvsOK Try.prog z11s := ⟨z0j _, z0g _, z0f _⟩
def zm8 : Shp := ⟨1, 0, [(0, .d (.int .i64))], []⟩
def zo4 : XS := .one .ret zm8.xe
theorem zx4 : zo4.OK := XS.one_ok (z0a zm8)
def zhs (j : T2) (j2 : List Int) (j3 : Int) (j4 : Bool) : Option ((Int)) :=
 some j3
def zew : Sig := ⟨14, [.rf (.ag [.c .nilp, .d c4, .d (.sl (.int .u8)), .d (.int .i64), .d .bool])], [], 0, zo4⟩
def zee (x : T2 × (List Int) × Int × Bool) : Option ((Int)) := zhs x.1 x.2.1 x.2.2.1 x.2.2.2
theorem znd : FnOK Try.prog zew zee :=
 fn_ok zya (h := .no) Try.func14 (z0d [] (by kernel_rfl) trivial) (by kernel_rfl) zx4 (fun x => by kernel_rfl)
def zze : Env := ⟨[], [], []⟩
theorem zw2 : EnvsOK Try.prog zze := ⟨z0j _, z0g _, z0f _⟩
def zkr : Shp := ⟨1, 0, [(0, .d (.int .i64))], []⟩
def zn0 : XS := .one .ret zkr.xe
theorem zv7 : zn0.OK := XS.one_ok (z0a zkr)
def z6y (d : T3) : Option ((Int)) :=
 z0i (List.length d.1) (
 some (List.length d.1 : Nat))
def ze6 : Sig := ⟨30, [.rf (.d c8)], [], 0, zn0⟩
def zdf (x : T3) : Option ((Int)) := z6y x
theorem zlp : FnOK Try.prog ze6 zdf :=
 fn_ok zw2 (h := .no) Try.func30 (z0d [] (by kernel_rfl) trivial) (by kernel_rfl) zv7 (fun x => by kernel_rfl)
def z15e : Env := ⟨[(entQ ze6 zdf)], [], []⟩
theorem z10t : EnvsOK Try.prog z15e := ⟨z0c (z0e zlp) (z0j _), z0g _, z0f _⟩
def zom : Shp := ⟨1, 0, [(0, .d (.int .i64))], []⟩
def zqd : XS := .one .ret zom.xe
theorem z10d : zqd.OK := XS.one_ok (z0a zom)
def z4o (d : T3) : Option ((Int)) :=
 (z6y d).bind fun r =>
 some (W64 (Int.tdiv (W64 (r - 2)) 2))
def z5z : Sig := ⟨31, [.rf (.d c8)], [], 0, zqd⟩
def z5a (x : T3) : Option ((Int)) := z4o x
theorem z6x : FnOK Try.prog z5z z5a :=
 fn_ok z10t (h := .no) Try.func31 (z0d [] (by kernel_rfl) trivial) (by kernel_rfl) z10d (fun x => by kernel_rfl)
def z10n : Env := ⟨[], [], []⟩
theorem zy4 : EnvsOK Try.prog z10n := ⟨z0j _, z0g _, z0f _⟩
def zm2 : Shp := ⟨1, 0, [(0, .d .bool)], []⟩
def zoh : XS := .one .ret zm2.xe
theorem zwo : zoh.OK := XS.one_ok (z0a zm2)
def z5w (d : T3) : Option ((Bool)) :=
 some d.2.2.2.2.2
def zbl : Sig := ⟨39, [.rf (.d c8)], [], 0, zoh⟩
def zap (x : T3) : Option ((Bool)) := z5w x
theorem zei : FnOK Try.prog zbl zap :=
 fn_ok zy4 (h := .no) Try.func39 (z0d [] (by kernel_rfl) trivial) (by kernel_rfl) zwo (fun x => by kernel_rfl)
def z10x : Env := ⟨[(entQ zbl zap)], [], []⟩
theorem zyi : EnvsOK Try.prog z10x := ⟨z0c (z0e zei) (z0j _), z0g _, z0f _⟩
def zls : Shp := ⟨1, 0, [(0, .d (.int .i64))], []⟩
def zoq : XS := .one .ret zls.xe
theorem zxt : zoq.OK := XS.one_ok (z0a zls)
def z7q (d : T3) (i : Int) : Option ((Int)) :=
 (z5w d).bind fun r =>
 bif r then
 some 6
 else
 bif ltI i 0 then
 some 2
 else
 z0i (List.length d.1) (
 bif leI (List.length d.1 : Nat) i then
 some 2
 else
 some 0)
def zba : Sig := ⟨51, [.rf (.d c8), .d (.int .i64)], [], 0, zoq⟩
def zak (x : T3 × Int) : Option ((Int)) := z7q x.1 x.2
theorem ze9 : FnOK Try.prog zba zak :=
 fn_ok zyi (h := .no) Try.func51 (z0d [] (by kernel_rfl) trivial) (by kernel_rfl) zxt (fun x => by kernel_rfl)
def z1ge : Env := ⟨[], [], []⟩
theorem z1cj : EnvsOK Try.prog z1ge := ⟨z0j _, z0g _, z0f _⟩
def zzb : Shp := ⟨1, 0, [(0, .fs c9)], []⟩
def z14o : XS := .one .ret zzb.xe
theorem z1ba : z14o.OK := XS.one_ok (z0a zzb)
def zmm (t0 : List T0) : Option (((List T0))) :=
 z0i (List.length t0) (
 z0i (List.length t0) (
 bif subOk 0 (List.length t0 : Nat) (List.length t0) && eqI (List.length t0 : Nat) (List.length t0 : Nat) then
 some (subL t0 0 (List.length t0 : Nat))
 else none))
def zt9 : Sig := ⟨71, [.d c2], [], 0, z14o⟩
def zqo (x : (List T0)) : Option (((List T0))) := zmm x
theorem z11y : FnOK Try.prog zt9 zqo :=
 fn_ok z1cj (h := .no) Try.func71 (z0d [] (by kernel_rfl) trivial) (by kernel_rfl) z1ba (fun x => by kernel_rfl)
def z10c : Env := ⟨[(entQ zba zak)], [], []⟩
theorem zk7 : EnvsOK Try.prog z10c := ⟨z0c (z0e ze9) (z0j _), z0g _, z0f _⟩
def zb3 : Shp := ⟨40, 1, [(7, .pt 1 (.one (.arr 256 .leaf)) [])], [.var 71 (.ag [.wn 2 c1, .d c2, .d (.int .i64), .d c3, .d (.int .i64), .d .bool]), .var 86 (.d c1), .row 86 c1]⟩
def z2v : XS := .one (.exit 0) zb3.xe
theorem zit : z2v.OK := XS.one_ok (z0a zb3)
def z2r : Shp := ⟨40, 1, [(1, .d (.int .i64)), (7, .pt 1 (.one (.arr 256 .leaf)) []), (26, .d c2), (27, .d (.int .i64)), (28, .d (.int .i64))], [.var 71 (.ag [.wn 2 c1, .d c2, .d (.int .i64), .d c3, .d (.int .i64), .d .bool]), .var 86 (.d c1), .row 86 c1]⟩
abbrev z7j := Int × (List T0) × Int × Int × (List T0) × Int × T1 × Int × Bool × (List Int) × (List (List Int))
abbrev zby := ((List T0) × Int × T1 × Int × Bool × (List Int) × (List (List Int)))
def z2u (i : Int) (t26 : List T0) (t27 : Int) (t28 : Int) (h : List T0) (h2 : Int) (h3 : T1) (h4 : Int) (h5 : Bool) (t7 : List Int) (h6 : List (List Int)) : Option (z7j ⊕ zby) :=
 bif ltI t28 t27 then
 (idxI t26 t28).bind fun x =>
 bif eqI x.1 i then
 bif Nat.beq (List.length h6) (List.length h6) then
 some (.inl (i, t26, t27, W64 (t28 + 1), h, h2, h3, h4, h5, x.2, h6))
 else none
 else
 bif Nat.beq (List.length h6) (List.length h6) then
 some (.inl (i, t26, t27, W64 (t28 + 1), h, h2, h3, h4, h5, t7, h6))
 else none
 else
 bif Nat.beq (List.length h6) (List.length h6) then
 some (.inr (h, h2, h3, h4, h5, t7, h6))
 else none
def z0w (s : z7j) : Option (z7j ⊕ zby) := z2u s.1 s.2.1 s.2.2.1 s.2.2.2.1 s.2.2.2.2.1 s.2.2.2.2.2.1 s.2.2.2.2.2.2.1 s.2.2.2.2.2.2.2.1 s.2.2.2.2.2.2.2.2.1 s.2.2.2.2.2.2.2.2.2.1 s.2.2.2.2.2.2.2.2.2.2
theorem zki : SoundD Try.prog (.loop (subC (bodyC Try.f28) [1, 1, 1, 0, 1, 0, 0])) (loopD z2r.xe z2v (loopC z0w)) :=
 z0y (S := z2r.xe) (X := z2v) zk7 (h := .no) (z0d [] (by kernel_rfl) trivial) (z0a z2r) zit z0w (fun s => by kernel_rfl)
def zjv : Shp := ⟨1, 1, [(0, .tu [.wn 1 (.int .u8), .d (.int .i64)])], [.var 71 (.ag [.wn 2 c1, .d c2, .d (.int .i64), .d c3, .d (.int .i64), .d .bool]), .row 86 (.int .u8), .row 86 c1]⟩
def zmu : XS := .one .ret zjv.xe
theorem zut : zmu.OK := XS.one_ok (z0a zjv)
def z6v (i : Int) (d : List T0) (d2 : Int) (d3 : T1) (d4 : Int) (d5 : Bool) (d6 : List (List Int)) : Option ((Int × (List T0) × Int × T1 × Int × Bool × (List Int) × (List (List Int)))) :=
 winK d6 0 (List.length d6) fun w =>
 (z7q (w, d, d2, d3, d4, d5) i).bind fun r =>
 bif neI r 0 then
 bif Nat.beq 0 (List.length ([] : List Int)) then
 bif Nat.beq (List.length d6) (List.length d6) then
 some (r, d, d2, d3, d4, d5, ([] : List Int), d6)
 else none
 else none
 else
 bif inI i (List.length d6) then
 (d6[i.toNat]?).bind fun x =>
 z0i (List.length d) (
 bif Nat.beq (List.length d6) (List.length d6) then
 (loopC z0w (i, d, (List.length d : Nat), 0, d, d2, d3, d4, d5, x, d6)).bind fun o =>
 bif Nat.beq 256 (List.length o.2.2.2.2.2.1) then
 bif Nat.beq (List.length o.2.2.2.2.2.2) (List.length o.2.2.2.2.2.2) then
 some (0, o.1, o.2.1, o.2.2.1, o.2.2.2.1, o.2.2.2.2.1, o.2.2.2.2.2.1, o.2.2.2.2.2.2)
 else none
 else none
 else none)
 else none
def zmn : Sig := ⟨28, [.pt 0 r0 [], .d (.int .i64)], [.var 71 (.ag [.wn 1 c1, .d c2, .d (.int .i64), .d c3, .d (.int .i64), .d .bool]), .row 86 c1], 1, zmu⟩
def zlf (x : Int × (List T0) × Int × T1 × Int × Bool × (List (List Int))) : Option ((Int × (List T0) × Int × T1 × Int × Bool × (List Int) × (List (List Int)))) := z6v x.1 x.2.1 x.2.2.1 x.2.2.2.1 x.2.2.2.2.1 x.2.2.2.2.2.1 x.2.2.2.2.2.2
theorem zy0 : FnOK Try.prog zmn zlf :=
 fn_ok zk7 (h := (.two .no (.two .no (.two .no (.two (.two .no (.over (loopD z2r.xe z2v (loopC z0w)))) .no))))) Try.func28 (z0d [.den (.loop (subC (bodyC Try.f28) [1, 1, 1, 0, 1, 0, 0])) (loopD z2r.xe z2v (loopC z0w))] (by kernel_rfl) ⟨zki, trivial⟩) (by kernel_rfl) zut (fun x => by kernel_rfl)
def z1ek : Env := ⟨[], [], []⟩
theorem zwg : EnvsOK Try.prog z1ek := ⟨z0j _, z0g _, z0f _⟩
def zjz : Shp := ⟨19, 0, [], []⟩
def zk0 : Shp := ⟨19, 0, [(4, .d (.int .i64))], []⟩
def z7v : XS := .or (.exit 0) zjz.xe (.one .ret zk0.xe)
theorem zvj : z7v.OK := XS.or_ok (z0a zjz) (XS.one_ok (z0a zk0))
def z7u : Shp := ⟨19, 0, [(0, .d (.sl (.int .i64))), (1, .d (.int .i64)), (7, .d (.int .i64)), (8, .d (.int .i64))], []⟩
abbrev ze3 := (List Int) × Int × Int × Int
abbrev zn7 := (Unit) ⊕ (Int)
def zal (t0 : List Int) (v : Int) (t7 : Int) (t8 : Int) : Option (ze3 ⊕ zn7) :=
 bif ltI t8 t7 then
 (idxI t0 t8).bind fun x =>
 bif eqI v x then
 some (.inr (.inr t8))
 else
 some (.inl (t0, v, t7, W64 (t8 + 1)))
 else
 some (.inr (.inl ()))
def z3g (s : ze3) : Option (ze3 ⊕ zn7) := zal s.1 s.2.1 s.2.2.1 s.2.2.2
theorem zwq : SoundD Try.prog (.loop (subC (bodyC Try.f61) [1, 0, 1, 0, 0])) (loopD z7u.xe z7v (loopC z3g)) :=
 z0y (S := z7u.xe) (X := z7v) zwg (h := .no) (z0d [] (by kernel_rfl) trivial) (z0a z7u) zvj z3g (fun s => by kernel_rfl)
def zws : Shp := ⟨1, 0, [(0, .d (.int .i64))], []⟩
def z11d : XS := .one .ret zws.xe
theorem z18u : z11d.OK := XS.one_ok (z0a zws)
def zwd (t0 : List Int) (v : Int) : Option ((Int)) :=
 z0i (List.length t0) (
 (loopC z3g (t0, v, (List.length t0 : Nat), 0)).bind fun o =>
 Sum.elim (fun y =>
 some (-1)) (fun y2 =>
 some y2) o)
def z10u : Sig := ⟨61, [.d (.sl (.int .i64)), .d (.int .i64)], [], 0, z11d⟩
def zz2 (x : (List Int) × Int) : Option ((Int)) := zwd x.1 x.2
theorem z1d4 : FnOK Try.prog z10u zz2 :=
 fn_ok zwg (h := (.two .no (.two (.two .no (.over (loopD z7u.xe z7v (loopC z3g)))) .no))) Try.func61 (z0d [.den (.loop (subC (bodyC Try.f61) [1, 0, 1, 0, 0])) (loopD z7u.xe z7v (loopC z3g))] (by kernel_rfl) ⟨zwq, trivial⟩) (by kernel_rfl) z18u (fun x => by kernel_rfl)
def z18w : Env := ⟨[(entQ z10u zz2)], [], []⟩
theorem z15k : EnvsOK Try.prog z18w := ⟨z0c (z0e z1d4) (z0j _), z0g _, z0f _⟩
def zqa : Shp := ⟨1, 0, [(0, .d .bool)], []⟩
def ztz : XS := .one .ret zqa.xe
theorem z12u : ztz.OK := XS.one_ok (z0a zqa)
def zik (t0 : List Int) (v : Int) : Option ((Bool)) :=
 (zwd t0 v).bind fun r =>
 some (leI 0 r)
def zud : Sig := ⟨40, [.d (.sl (.int .i64)), .d (.int .i64)], [], 0, ztz⟩
def zsw (x : (List Int) × Int) : Option ((Bool)) := zik x.1 x.2
theorem z16h : FnOK Try.prog zud zsw :=
 fn_ok z15k (h := .no) Try.func40 (z0d [] (by kernel_rfl) trivial) (by kernel_rfl) z12u (fun x => by kernel_rfl)
def z11e : Env := ⟨[(entQ zbl zap), (entQ zud zsw)], [], []⟩
theorem zlz : EnvsOK Try.prog z11e := ⟨z0c (z0e zei) (z0c (z0e z16h) (z0j _)), z0g _, z0f _⟩
def z7i : Shp := ⟨53, 1, [(0, .pt 0 r0 []), (3, .pt 1 r7 []), (5, .pt 2 r10 []), (6, .d (.int .i64)), (12, .d c2), (13, .d (.int .i64)), (14, .d (.int .i64))], [.var 71 (.ag [.wn 3 c1, .d c2, .d (.int .i64), .d c3, .d (.int .i64), .d .bool]), .var 38 (.d c3), .var 88 (.d c9), .row 86 c1]⟩
def z4j : XS := .one .normal z7i.xe
theorem zcz : z4j.OK := XS.one_ok (z0a z7i)
def zca : Shp := ⟨53, 1, [(0, .pt 0 r0 [])], [.var 71 (.ag [.wn 1 c1, .d c2, .d (.int .i64), .d c3, .d (.int .i64), .d .bool]), .row 86 c1]⟩
def z3s : XS := .one (.exit 0) zca.xe
theorem zma : z3s.OK := XS.one_ok (z0a zca)
def z3q : Shp := ⟨53, 1, [(0, .pt 0 r0 []), (3, .pt 1 r7 []), (12, .d c2), (13, .d (.int .i64)), (14, .d (.int .i64))], [.var 71 (.ag [.wn 2 c1, .d c2, .d (.int .i64), .d c3, .d (.int .i64), .d .bool]), .var 38 (.d c3), .row 86 c1]⟩
abbrev z9f := (List T0) × Int × Int × (List T0) × Int × T1 × Int × Bool × T1 × (List (List Int))
abbrev zd0 := ((List T0) × Int × T1 × Int × Bool × (List (List Int)))
def z3n (t12 : List T0) (t13 : Int) (t14 : Int) (d : List T0) (d2 : Int) (d3 : T1) (d4 : Int) (d5 : Bool) (c : T1) (d6 : List (List Int)) : Option (z9f ⊕ zd0) :=
 bif ltI t14 t13 then
 (idxI t12 t14).bind fun x =>
 (show Option ((Int × (List T0) × Int × Int × (List T0) × Int × T1 × Int × Bool × T1 × T0 × (List (List Int)))) from
 (zik c.1 t14).bind fun r =>
 bif r then
 bif Nat.beq (List.length d6) (List.length d6) then
 some (256, t12, t13, t14, d, d2, d3, d4, d5, c, x, d6)
 else none
 else
 bif eqI c.2.1 t14 then
 bif Nat.beq (List.length d6) (List.length d6) then
 some (maxI 0 (minI c.2.2 256), t12, t13, t14, d, d2, d3, d4, d5, c, x, d6)
 else none
 else
 bif Nat.beq (List.length d6) (List.length d6) then
 some (0, t12, t13, t14, d, d2, d3, d4, d5, c, x, d6)
 else none).bind fun j =>
 bif inI j.2.2.2.2.2.2.2.2.2.2.1.1 (List.length j.2.2.2.2.2.2.2.2.2.2.2) then
 (j.2.2.2.2.2.2.2.2.2.2.2[j.2.2.2.2.2.2.2.2.2.2.1.1.toNat]?).bind fun x2 =>
 bif subOk 0 j.1 256 then
 winK j.2.2.2.2.2.2.2.2.2.2.1.2 0 256 fun w =>
 (j.2.2.2.2.2.2.2.2.2.2.2[j.2.2.2.2.2.2.2.2.2.2.1.1.toNat]?).bind fun x3 =>
 bif Nat.ble j.1.toNat (List.length x3) then
 (j.2.2.2.2.2.2.2.2.2.2.2[j.2.2.2.2.2.2.2.2.2.2.1.1.toNat]?).bind fun _x =>
 bif Nat.beq (List.length j.2.2.2.2.2.2.2.2.2.2.2) (List.length (j.2.2.2.2.2.2.2.2.2.2.2.set j.2.2.2.2.2.2.2.2.2.2.1.1.toNat (cpyL x3 0 j.1.toNat w))) then
 some (.inl (j.2.1, j.2.2.1, W64 (j.2.2.2.1 + 1), j.2.2.2.2.1, j.2.2.2.2.2.1, j.2.2.2.2.2.2.1, j.2.2.2.2.2.2.2.1, j.2.2.2.2.2.2.2.2.1, j.2.2.2.2.2.2.2.2.2.1, j.2.2.2.2.2.2.2.2.2.2.2.set j.2.2.2.2.2.2.2.2.2.2.1.1.toNat (cpyL x3 0 j.1.toNat w)))
 else none
 else none
 else none
 else none
 else
 bif Nat.beq (List.length d6) (List.length d6) then
 some (.inr (d, d2, d3, d4, d5, d6))
 else none
def z1a (s : z9f) : Option (z9f ⊕ zd0) := z3n s.1 s.2.1 s.2.2.1 s.2.2.2.1 s.2.2.2.2.1 s.2.2.2.2.2.1 s.2.2.2.2.2.2.1 s.2.2.2.2.2.2.2.1 s.2.2.2.2.2.2.2.2.1 s.2.2.2.2.2.2.2.2.2
theorem zmz : SoundD Try.prog (.loop (subC (bodyC Try.f17) [1, 1, 0, 1, 0, 0])) (loopD z3q.xe z3s (loopC z1a)) :=
 z0y (S := z3q.xe) (X := z3s) zlz (h := (.two .no (.two .no (.two (.two .no (.two .no (.join (fun _ => z4j) .no (.reg [] [11, 0])))) .no)))) (z0d [.xs (fun _ => z4j)] (by kernel_rfl) ⟨(za1 zcz), trivial⟩) (z0a z3q) zma z1a (fun s => by kernel_rfl)
def zle : Shp := ⟨1, 1, [(0, .tu [])], [.var 71 (.ag [.wn 1 c1, .d c2, .d (.int .i64), .d c3, .d (.int .i64), .d .bool]), .row 86 c1]⟩
def zo9 : XS := .one .ret zle.xe
theorem zx6 : zo9.OK := XS.one_ok (z0a zle)
def zcy (c : T1) (d : List T0) (d2 : Int) (d3 : T1) (d4 : Int) (d5 : Bool) (d6 : List (List Int)) : Option (((List T0) × Int × T1 × Int × Bool × (List (List Int)))) :=
 winK d6 0 (List.length d6) fun w =>
 (z5w (w, d, d2, d3, d4, d5)).bind fun r =>
 bif r then
 bif Nat.beq (List.length d6) (List.length d6) then
 some (d, d2, d3, d4, d5, d6)
 else none
 else
 z0i (List.length d) (
 bif Nat.beq (List.length d6) (List.length d6) then
 (loopC z1a (d, (List.length d : Nat), 0, d, d2, d3, d4, d5, c, d6)).bind fun o =>
 bif Nat.beq (List.length o.2.2.2.2.2) (List.length o.2.2.2.2.2) then
 some ([], (-1), o.2.2.1, o.2.2.2.1, true, o.2.2.2.2.2)
 else none
 else none)
def zop : Sig := ⟨17, [.pt 0 r0 [], .d c3], [.var 71 (.ag [.wn 1 c1, .d c2, .d (.int .i64), .d c3, .d (.int .i64), .d .bool]), .row 86 c1], 1, zo9⟩
def zms (x : T1 × (List T0) × Int × T1 × Int × Bool × (List (List Int))) : Option (((List T0) × Int × T1 × Int × Bool × (List (List Int)))) := zcy x.1 x.2.1 x.2.2.1 x.2.2.2.1 x.2.2.2.2.1 x.2.2.2.2.2.1 x.2.2.2.2.2.2
theorem zzo : FnOK Try.prog zop zms :=
 fn_ok zlz (h := (.two .no (.two .no (.two (.two .no (.over (loopD z3q.xe z3s (loopC z1a)))) .no)))) Try.func17 (z0d [.den (.loop (subC (bodyC Try.f17) [1, 1, 0, 1, 0, 0])) (loopD z3q.xe z3s (loopC z1a))] (by kernel_rfl) ⟨zmz, trivial⟩) (by kernel_rfl) zx6 (fun x => by kernel_rfl)
def zwr : Env := ⟨[], [(entP zop zms)], []⟩
theorem zth : EnvsOK Try.prog zwr := ⟨z0j _, z0l (z0t zzo) (z0g _), z0f _⟩
def zhg : Shp := ⟨1, 1, [(0, .d (.int .i64))], [.var 71 (.ag [.wn 1 c1, .d c2, .d (.int .i64), .d c3, .d (.int .i64), .d .bool]), .row 86 c1]⟩
def zjn : XS := .one .ret zhg.xe
theorem zsl : zjn.OK := XS.one_ok (z0a zhg)
def z5u (d : List T0) (d2 : Int) (d3 : T1) (d4 : Int) (d5 : Bool) (d6 : List (List Int)) : Option ((Int × (List T0) × Int × T1 × Int × Bool × (List (List Int)))) :=
 bif ltI d2 0 then
 bif Nat.beq (List.length d6) (List.length d6) then
 some (0, d, d2, d3, W64 (d4 + 1), d5, d6)
 else none
 else
 bif ltI (W64 (d2 - 1)) 0 then
 bif Nat.beq (List.length d6) (List.length d6) then
 (zcy d3 d (W64 (d2 - 1)) d3 (W64 (d4 + 1)) d5 d6).bind fun r =>
 bif Nat.beq (List.length r.2.2.2.2.2) (List.length r.2.2.2.2.2) then
 some (6, r.1, r.2.1, r.2.2.1, r.2.2.2.1, r.2.2.2.2.1, r.2.2.2.2.2)
 else none
 else none
 else
 bif Nat.beq (List.length d6) (List.length d6) then
 some (0, d, W64 (d2 - 1), d3, W64 (d4 + 1), d5, d6)
 else none
def z9t : Sig := ⟨72, [.pt 0 r0 []], [.var 71 (.ag [.wn 1 c1, .d c2, .d (.int .i64), .d c3, .d (.int .i64), .d .bool]), .row 86 c1], 1, zjn⟩
def z9c (x : (List T0) × Int × T1 × Int × Bool × (List (List Int))) : Option ((Int × (List T0) × Int × T1 × Int × Bool × (List (List Int)))) := z5u x.1 x.2.1 x.2.2.1 x.2.2.2.1 x.2.2.2.2.1 x.2.2.2.2.2
theorem zc1 : FnOK Try.prog z9t z9c :=
 fn_ok zth (h := .no) Try.func72 (z0d [] (by kernel_rfl) trivial) (by kernel_rfl) zsl (fun x => by kernel_rfl)
def zxx : Env := ⟨[(entQ zba zak), (entQ zt9 zqo)], [(entP z9t z9c)], []⟩
theorem zuw : EnvsOK Try.prog zxx := ⟨z0c (z0e ze9) (z0c (z0e z11y) (z0j _)), z0l (z0t zc1) (z0g _), z0f _⟩
def zig : Shp := ⟨1, 1, [(0, .d (.int .i64))], [.var 71 (.ag [.wn 1 c1, .d c2, .d (.int .i64), .d c3, .d (.int .i64), .d .bool]), .row 86 c1]⟩
def zly : XS := .one .ret zig.xe
theorem zt7 : zly.OK := XS.one_ok (z0a zig)
def z8r (i : Int) (b : List Int) (d : List T0) (d2 : Int) (d3 : T1) (d4 : Int) (d5 : Bool) (d6 : List (List Int)) : Option ((Int × (List T0) × Int × T1 × Int × Bool × (List (List Int)))) :=
 winK d6 0 (List.length d6) fun w =>
 (z7q (w, d, d2, d3, d4, d5) i).bind fun r =>
 bif neI r 0 then
 bif Nat.beq (List.length d6) (List.length d6) then
 some (r, d, d2, d3, d4, d5, d6)
 else none
 else
 z0i (List.length b) (
 bif neI (List.length b : Nat) 256 then
 bif Nat.beq (List.length d6) (List.length d6) then
 some (1, d, d2, d3, d4, d5, d6)
 else none
 else
 bif Nat.ble 256 (List.length (List.replicate 256 (0 : Int))) then
 (zmm d).bind fun r2 =>
 appG (List.length r2) (List.length (([(i, cpyL (List.replicate 256 (0 : Int)) 0 256 b)] : List T0))) 264 fun _ =>
 bif Nat.beq (List.length d6) (List.length d6) then
 (z5u (r2 ++ (([(i, cpyL (List.replicate 256 (0 : Int)) 0 256 b)] : List T0))) d2 d3 d4 d5 d6).bind fun r3 =>
 bif Nat.beq (List.length r3.2.2.2.2.2.2) (List.length r3.2.2.2.2.2.2) then
 some (r3.1, r3.2.1, r3.2.2.1, r3.2.2.2.1, r3.2.2.2.2.1, r3.2.2.2.2.2.1, r3.2.2.2.2.2.2)
 else none
 else none
 else none)
def zd9 : Sig := ⟨53, [.pt 0 r0 [], .d (.int .i64), .d (.sl (.int .u8))], [.var 71 (.ag [.wn 1 c1, .d c2, .d (.int .i64), .d c3, .d (.int .i64), .d .bool]), .row 86 c1], 1, zly⟩
def zco (x : Int × (List Int) × (List T0) × Int × T1 × Int × Bool × (List (List Int))) : Option ((Int × (List T0) × Int × T1 × Int × Bool × (List (List Int)))) := z8r x.1 x.2.1 x.2.2.1 x.2.2.2.1 x.2.2.2.2.1 x.2.2.2.2.2.1 x.2.2.2.2.2.2.1 x.2.2.2.2.2.2.2
theorem zju : FnOK Try.prog zd9 zco :=
 fn_ok zuw (h := .no) Try.func53 (z0d [] (by kernel_rfl) trivial) (by kernel_rfl) zt7 (fun x => by kernel_rfl)
def zuy : Env := ⟨[(entQ zbl zap)], [(entP z9t z9c)], []⟩
theorem zg3 : EnvsOK Try.prog zuy := ⟨z0c (z0e zei) (z0j _), z0l (z0t zc1) (z0g _), z0f _⟩
def za3 : Shp := ⟨35, 1, [(0, .pt 0 r0 [])], [.var 71 (.ag [.wn 1 c1, .d c2, .d (.int .i64), .d c3, .d (.int .i64), .d .bool]), .row 86 c1]⟩
def z2g : XS := .one (.exit 0) za3.xe
theorem zgh : z2g.OK := XS.one_ok (z0a za3)
def z2d : Shp := ⟨35, 1, [(0, .pt 0 r0 []), (16, .d c2), (17, .d (.int .i64)), (18, .d (.int .i64))], [.var 71 (.ag [.wn 1 c1, .d c2, .d (.int .i64), .d c3, .d (.int .i64), .d .bool]), .row 86 c1]⟩
abbrev z6l := (List T0) × Int × Int × (List T0) × Int × T1 × Int × Bool × (List (List Int))
abbrev zai := ((List T0) × Int × T1 × Int × Bool × (List (List Int)))
def z2b (t16 : List T0) (t17 : Int) (t18 : Int) (d : List T0) (d2 : Int) (d3 : T1) (d4 : Int) (d5 : Bool) (d6 : List (List Int)) : Option (z6l ⊕ zai) :=
 bif ltI t18 t17 then
 (idxI t16 t18).bind fun x =>
 bif inI x.1 (List.length d6) then
 (d6[x.1.toNat]?).bind fun _x =>
 bif Nat.beq (List.length d6) (List.length (d6.set x.1.toNat x.2)) then
 some (.inl (t16, t17, W64 (t18 + 1), d, d2, d3, d4, d5, d6.set x.1.toNat x.2))
 else none
 else none
 else
 bif Nat.beq (List.length d6) (List.length d6) then
 some (.inr (d, d2, d3, d4, d5, d6))
 else none
def z0q (s : z6l) : Option (z6l ⊕ zai) := z2b s.1 s.2.1 s.2.2.1 s.2.2.2.1 s.2.2.2.2.1 s.2.2.2.2.2.1 s.2.2.2.2.2.2.1 s.2.2.2.2.2.2.2.1 s.2.2.2.2.2.2.2.2
theorem zh8 : SoundD Try.prog (.loop (subC (bodyC Try.f55) [1, 1, 1, 0, 1, 0, 0])) (loopD z2d.xe z2g (loopC z0q)) :=
 z0y (S := z2d.xe) (X := z2g) zg3 (h := .no) (z0d [] (by kernel_rfl) trivial) (z0a z2d) zgh z0q (fun s => by kernel_rfl)
def zg4 : Shp := ⟨1, 1, [(0, .d (.int .i64))], [.var 71 (.ag [.wn 1 c1, .d c2, .d (.int .i64), .d c3, .d (.int .i64), .d .bool]), .row 86 c1]⟩
def zih : XS := .one .ret zg4.xe
theorem zrf : zih.OK := XS.one_ok (z0a zg4)
def z4w (d : List T0) (d2 : Int) (d3 : T1) (d4 : Int) (d5 : Bool) (d6 : List (List Int)) : Option ((Int × (List T0) × Int × T1 × Int × Bool × (List (List Int)))) :=
 winK d6 0 (List.length d6) fun w =>
 (z5w (w, d, d2, d3, d4, d5)).bind fun r =>
 bif r then
 bif Nat.beq (List.length d6) (List.length d6) then
 some (6, d, d2, d3, d4, d5, d6)
 else none
 else
 bif Nat.beq (List.length d6) (List.length d6) then
 (z5u d d2 d3 d4 d5 d6).bind fun r2 =>
 bif neI r2.1 0 then
 bif Nat.beq (List.length r2.2.2.2.2.2.2) (List.length r2.2.2.2.2.2.2) then
 some (r2.1, r2.2.1, r2.2.2.1, r2.2.2.2.1, r2.2.2.2.2.1, r2.2.2.2.2.2.1, r2.2.2.2.2.2.2)
 else none
 else
 z0i (List.length r2.2.1) (
 bif Nat.beq (List.length r2.2.2.2.2.2.2) (List.length r2.2.2.2.2.2.2) then
 (loopC z0q (r2.2.1, (List.length r2.2.1 : Nat), 0, r2.2.1, r2.2.2.1, r2.2.2.2.1, r2.2.2.2.2.1, r2.2.2.2.2.2.1, r2.2.2.2.2.2.2)).bind fun o =>
 bif Nat.beq (List.length o.2.2.2.2.2) (List.length o.2.2.2.2.2) then
 some (0, [], o.2.1, o.2.2.1, o.2.2.2.1, o.2.2.2.2.1, o.2.2.2.2.2)
 else none
 else none)
 else none
def z9d : Sig := ⟨55, [.pt 0 r0 []], [.var 71 (.ag [.wn 1 c1, .d c2, .d (.int .i64), .d c3, .d (.int .i64), .d .bool]), .row 86 c1], 1, zih⟩
def z8g (x : (List T0) × Int × T1 × Int × Bool × (List (List Int))) : Option ((Int × (List T0) × Int × T1 × Int × Bool × (List (List Int)))) := z4w x.1 x.2.1 x.2.2.1 x.2.2.2.1 x.2.2.2.2.1 x.2.2.2.2.2
theorem zbv : FnOK Try.prog z9d z8g :=
 fn_ok zg3 (h := (.two .no (.two .no (.two .no (.two (.two .no (.over (loopD z2d.xe z2g (loopC z0q)))) .no))))) Try.func55 (z0d [.den (.loop (subC (bodyC Try.f55) [1, 1, 1, 0, 1, 0, 0])) (loopD z2d.xe z2g (loopC z0q))] (by kernel_rfl) ⟨zh8, trivial⟩) (by kernel_rfl) zrf (fun x => by kernel_rfl)
def zw3 : Env := ⟨[(entQ z4h z3o)], [(entP zd9 zco), (entP z9d z8g)], []⟩
theorem ztc : EnvsOK Try.prog zw3 := ⟨z0c (z0e z5q) (z0j _), z0l (z0t zju) (z0l (z0t zbv) (z0g _)), z0f _⟩
def zen : Shp := ⟨34, 2, [(0, .pt 0 r6 []), (3, .pt 2 r7 []), (5, .d (.int .i64))], [.var 75 (.ag [.pt 1 r0 [], .d c4, .wn 3 (.int .u8), .d (.int .i64), .d .bool]), .var 71 (.ag [.wn 4 c1, .d c2, .d (.int .i64), .d c3, .d (.int .i64), .d .bool]), .var 73 (.d c4), .row 5 (.int .u8), .row 86 c1]⟩
def zar : XS := .one .normal zen.xe
theorem zpn : zar.OK := XS.one_ok (z0a zen)
def zh9 : Shp := ⟨1, 2, [(0, .d (.int .i64))], [.var 75 (.ag [.pt 1 r0 [], .d c4, .d (.sl (.int .u8)), .d (.int .i64), .d .bool]), .var 71 (.ag [.wn 2 c1, .d c2, .d (.int .i64), .d c3, .d (.int .i64), .d .bool]), .row 86 c1]⟩
def zjy : XS := .one .ret zh9.xe
theorem zsx : zjy.OK := XS.one_ok (z0a zh9)
def zam (t : T2) (j : T2) (j2 : Int) (j3 : Bool) (j4 : List T0) (j5 : Int) (j6 : T1) (j7 : Int) (j8 : Bool) (j9 : List Int) (j10 : List (List Int)) : Option ((Int × T2 × (List Int) × Int × Bool × (List T0) × Int × T1 × Int × Bool × (List (List Int)))) :=
 (z1y t).bind fun r =>
 bif Nat.beq (List.length j10) (List.length j10) then
 (z8r (W64 (Int.tmod t.1 2)) r j4 j5 j6 j7 j8 j10).bind fun r2 =>
 (show Option ((Int × T2 × Int × Bool × (List T0) × Int × T1 × Int × Bool × T2 × (List Int) × (List (List Int)))) from
 bif eqI r2.1 0 then
 bif Nat.beq (List.length r2.2.2.2.2.2.2) (List.length r2.2.2.2.2.2.2) then
 (z4w r2.2.1 r2.2.2.1 r2.2.2.2.1 r2.2.2.2.2.1 r2.2.2.2.2.2.1 r2.2.2.2.2.2.2).bind fun r3 =>
 bif Nat.beq (List.length j9) (List.length j9) then
 bif Nat.beq (List.length r3.2.2.2.2.2.2) (List.length r3.2.2.2.2.2.2) then
 some (r3.1, j, j2, j3, r3.2.1, r3.2.2.1, r3.2.2.2.1, r3.2.2.2.2.1, r3.2.2.2.2.2.1, t, j9, r3.2.2.2.2.2.2)
 else none
 else none
 else none
 else
 bif Nat.beq (List.length j9) (List.length j9) then
 bif Nat.beq (List.length r2.2.2.2.2.2.2) (List.length r2.2.2.2.2.2.2) then
 some (r2.1, j, j2, j3, r2.2.1, r2.2.2.1, r2.2.2.2.1, r2.2.2.2.2.1, r2.2.2.2.2.2.1, t, j9, r2.2.2.2.2.2.2)
 else none
 else none).bind fun j11 =>
 bif neI j11.1 0 then
 winK j11.2.2.2.2.2.2.2.2.2.2.1 0 (List.length j11.2.2.2.2.2.2.2.2.2.2.1) fun w =>
 bif Nat.beq (List.length j11.2.2.2.2.2.2.2.2.2.2.2) (List.length j11.2.2.2.2.2.2.2.2.2.2.2) then
 some (j11.1, j11.2.1, w, j11.2.2.1, true, j11.2.2.2.2.1, j11.2.2.2.2.2.1, j11.2.2.2.2.2.2.1, j11.2.2.2.2.2.2.2.1, j11.2.2.2.2.2.2.2.2.1, j11.2.2.2.2.2.2.2.2.2.2.2)
 else none
 else
 winK j11.2.2.2.2.2.2.2.2.2.2.1 0 (List.length j11.2.2.2.2.2.2.2.2.2.2.1) fun w2 =>
 bif Nat.beq (List.length j11.2.2.2.2.2.2.2.2.2.2.2) (List.length j11.2.2.2.2.2.2.2.2.2.2.2) then
 some (0, j11.2.2.2.2.2.2.2.2.2.1, w2, j11.2.2.1, j11.2.2.2.1, j11.2.2.2.2.1, j11.2.2.2.2.2.1, j11.2.2.2.2.2.2.1, j11.2.2.2.2.2.2.2.1, j11.2.2.2.2.2.2.2.2.1, j11.2.2.2.2.2.2.2.2.2.2.2)
 else none
 else none
def zjm : Sig := ⟨33, [.pt 0 r6 [], .d c4], [.var 75 (.ag [.pt 1 r0 [], .d c4, .wn 2 (.int .u8), .d (.int .i64), .d .bool]), .var 71 (.ag [.wn 3 c1, .d c2, .d (.int .i64), .d c3, .d (.int .i64), .d .bool]), .row 5 (.int .u8), .row 86 c1], 2, zjy⟩
def zi8 (x : T2 × T2 × Int × Bool × (List T0) × Int × T1 × Int × Bool × (List Int) × (List (List Int))) : Option ((Int × T2 × (List Int) × Int × Bool × (List T0) × Int × T1 × Int × Bool × (List (List Int)))) := zam x.1 x.2.1 x.2.2.1 x.2.2.2.1 x.2.2.2.2.1 x.2.2.2.2.2.1 x.2.2.2.2.2.2.1 x.2.2.2.2.2.2.2.1 x.2.2.2.2.2.2.2.2.1 x.2.2.2.2.2.2.2.2.2.1 x.2.2.2.2.2.2.2.2.2.2
theorem zvc : FnOK Try.prog zjm zi8 :=
 fn_ok ztc (h := (.two .no (.two (.reg [] [10, 0, 1]) (.join (fun _ => zar) .no .no)))) Try.func33 (z0d [.xs (fun _ => zar)] (by kernel_rfl) ⟨(za1 zpn), trivial⟩) (by kernel_rfl) zsx (fun x => by kernel_rfl)
def zzh : Env := ⟨[(entQ z5z z5a)], [], []⟩
theorem zvz : EnvsOK Try.prog zzh := ⟨z0c (z0e z6x) (z0j _), z0g _, z0f _⟩
def ziz : Shp := ⟨1, 0, [(0, .d (.int .i64))], []⟩
def zne : XS := .one .ret ziz.xe
theorem zuq : zne.OK := XS.one_ok (z0a ziz)
def z9q (j : T3) (j2 : T2) (j3 : List Int) (j4 : Int) (j5 : Bool) (side : Int) (i : Int) : Option ((Int)) :=
 (z4o j).bind fun r =>
 some (W64 ((W64 (2 + (W64 (side * r)))) + i))
def zek : Sig := ⟨34, [.rf (.ag [.rf (.d c8), .d c4, .d (.sl (.int .u8)), .d (.int .i64), .d .bool]), .d (.int .i64), .d (.int .i64)], [], 0, zne⟩
def zda (x : T3 × T2 × (List Int) × Int × Bool × Int × Int) : Option ((Int)) := z9q x.1 x.2.1 x.2.2.1 x.2.2.2.1 x.2.2.2.2.1 x.2.2.2.2.2.1 x.2.2.2.2.2.2
theorem zld : FnOK Try.prog zek zda :=
 fn_ok zvz (h := .no) Try.func34 (z0d [] (by kernel_rfl) trivial) (by kernel_rfl) zuq (fun x => by kernel_rfl)
def z1ar : Env := ⟨[(entQ ze6 zdf), (entQ z5z z5a), (entQ zpm znr), (entQ zek zda)], [(entP zmn zlf), (entP zjm zi8), (entP znm zmg)], []⟩
theorem zkp : EnvsOK Try.prog z1ar := ⟨z0c (z0e zlp) (z0c (z0e z6x) (z0c (z0e zxm) (z0c (z0e zld) (z0j _)))), z0l (z0t zy0) (z0l (z0t zvc) (z0l (z0t zub) (z0g _))), z0f _⟩
def zci : Shp := ⟨138, 1, [(0, .pt 0 r0 []), (5, .pt 1 r6 [])], [.var 71 (.ag [.wn 2 c1, .d c2, .d (.int .i64), .d c3, .d (.int .i64), .d .bool]), .var 75 (.ag [.pt 0 r0 [], .d c4, .wn 3 (.int .u8), .d (.int .i64), .d .bool]), .row 86 c1, .row 5 (.int .u8)]⟩
def zct : Shp := ⟨138, 1, [(2, .c .nilp), (3, .d c5), (4, .d (.int .i64))], [.var 71 (.ag [.wn 1 c1, .d c2, .d (.int .i64), .d c3, .d (.int .i64), .d .bool]), .row 86 c1]⟩
def z4g : XS := .or (.exit 0) zci.xe (.one .ret zct.xe)
theorem zn1 : z4g.OK := XS.or_ok (z0a zci) (XS.one_ok (z0a zct))
def z4b : Shp := ⟨138, 1, [(0, .pt 0 r0 []), (5, .pt 1 r6 []), (6, .d (.int .i64)), (26, .d (.int .i64))], [.var 71 (.ag [.wn 2 c1, .d c2, .d (.int .i64), .d c3, .d (.int .i64), .d .bool]), .var 75 (.ag [.pt 0 r0 [], .d c4, .wn 3 (.int .u8), .d (.int .i64), .d .bool]), .row 86 c1, .row 5 (.int .u8)]⟩
abbrev z9z := Int × Int × (List T0) × Int × T1 × Int × Bool × T2 × Int × Bool × (List (List Int)) × (List Int)
abbrev zdt := ((List T0) × Int × T1 × Int × Bool × T2 × Int × Bool × (List (List Int)) × (List Int)) ⊕ ((List (List Int)) × Int × (List T0) × Int × T1 × Int × Bool × (List (List Int)))
def z4a (room : Int) (t26 : Int) (d : List T0) (d2 : Int) (d3 : T1) (d4 : Int) (d5 : Bool) (j : T2) (j2 : Int) (j3 : Bool) (d6 : List (List Int)) (j4 : List Int) : Option (z9z ⊕ zdt) :=
 bif ltI t26 2 then
 bif Nat.beq (List.length d6) (List.length d6) then
 (z6v t26 d d2 d3 d4 d5 d6).bind fun r =>
 bif neI r.1 0 then
 bif Nat.beq (List.length r.2.2.2.2.2.2.2) (List.length r.2.2.2.2.2.2.2) then
 some (.inr (.inr ([], r.1, r.2.1, r.2.2.1, r.2.2.2.1, r.2.2.2.2.1, r.2.2.2.2.2.1, r.2.2.2.2.2.2.2)))
 else none
 else
 winK r.2.2.2.2.2.2.1 0 (List.length r.2.2.2.2.2.2.1) fun w =>
 (zh1 w room).bind fun r2 =>
 bif ltI j.1 r2.1 then
 bif Nat.beq (List.length r.2.2.2.2.2.2.2) (List.length r.2.2.2.2.2.2.2) then
 bif Nat.beq (List.length j4) (List.length j4) then
 some (.inl (room, W64 (t26 + 1), r.2.1, r.2.2.1, r.2.2.2.1, r.2.2.2.2.1, r.2.2.2.2.2.1, r2, j2, j3, r.2.2.2.2.2.2.2, j4))
 else none
 else none
 else
 bif Nat.beq (List.length r.2.2.2.2.2.2.2) (List.length r.2.2.2.2.2.2.2) then
 bif Nat.beq (List.length j4) (List.length j4) then
 some (.inl (room, W64 (t26 + 1), r.2.1, r.2.2.1, r.2.2.2.1, r.2.2.2.2.1, r.2.2.2.2.2.1, j, j2, j3, r.2.2.2.2.2.2.2, j4))
 else none
 else none
 else none
 else
 bif Nat.beq (List.length d6) (List.length d6) then
 bif Nat.beq (List.length j4) (List.length j4) then
 some (.inr (.inl (d, d2, d3, d4, d5, j, j2, j3, d6, j4)))
 else none
 else none
def z1l (s : z9z) : Option (z9z ⊕ zdt) := z4a s.1 s.2.1 s.2.2.1 s.2.2.2.1 s.2.2.2.2.1 s.2.2.2.2.2.1 s.2.2.2.2.2.2.1 s.2.2.2.2.2.2.2.1 s.2.2.2.2.2.2.2.2.1 s.2.2.2.2.2.2.2.2.2.1 s.2.2.2.2.2.2.2.2.2.2.1 s.2.2.2.2.2.2.2.2.2.2.2
theorem znw : SoundD Try.prog (.loop (subC (bodyC Try.f10) [1, 1, 1, 1, 0, 1, 0, 0])) (loopD z4b.xe z4g (loopC z1l)) :=
 z0y (S := z4b.xe) (X := z4g) zkp (h := .no) (z0d [] (by kernel_rfl) trivial) (z0a z4b) zn1 z1l (fun s => by kernel_rfl)
def zas : Shp := ⟨138, 1, [(5, .pt 1 r6 [])], [.var 71 (.ag [.wn 2 c1, .d c2, .d (.int .i64), .d c3, .d (.int .i64), .d .bool]), .var 75 (.ag [.pt 0 r0 [], .d c4, .wn 3 (.int .u8), .d (.int .i64), .d .bool]), .row 86 c1, .row 5 (.int .u8)]⟩
def zb6 : Shp := ⟨138, 1, [(2, .c .nilp), (3, .d c5), (4, .d (.int .i64))], [.var 71 (.ag [.wn 1 c1, .d c2, .d (.int .i64), .d c3, .d (.int .i64), .d .bool]), .row 86 c1]⟩
def z2t : XS := .or (.exit 2) zas.xe (.one .ret zb6.xe)
theorem ziv : z2t.OK := XS.or_ok (z0a zas) (XS.one_ok (z0a zb6))
def z2p : Shp := ⟨138, 1, [(0, .pt 0 r0 []), (5, .pt 1 r6 []), (12, .d (.int .i64))], [.var 71 (.ag [.wn 2 c1, .d c2, .d (.int .i64), .d c3, .d (.int .i64), .d .bool]), .var 75 (.ag [.pt 0 r0 [], .d c4, .wn 3 (.int .u8), .d (.int .i64), .d .bool]), .row 86 c1, .row 5 (.int .u8)]⟩
abbrev z7l := Int × (List T0) × Int × T1 × Int × Bool × T2 × Int × Bool × (List (List Int)) × (List Int)
abbrev zc0 := ((List T0) × Int × T1 × Int × Bool × T2 × Int × Bool × (List (List Int)) × (List Int)) ⊕ ((List (List Int)) × Int × (List T0) × Int × T1 × Int × Bool × (List (List Int)))
def z2w (i : Int) (d : List T0) (d2 : Int) (d3 : T1) (d4 : Int) (d5 : Bool) (j : T2) (j2 : Int) (j3 : Bool) (d6 : List (List Int)) (j4 : List Int) : Option (z7l ⊕ zc0) :=
 bif ltI (W64 (i * 256)) j.2.2 then
 winK d6 0 (List.length d6) fun w =>
 winK j4 0 (List.length j4) fun w2 =>
 (z9q (w, d, d2, d3, d4, d5) j w2 j2 j3 j.2.1 i).bind fun r =>
 bif Nat.beq (List.length d6) (List.length d6) then
 (z6v r d d2 d3 d4 d5 d6).bind fun r2 =>
 bif neI r2.1 0 then
 bif Nat.beq (List.length r2.2.2.2.2.2.2.2) (List.length r2.2.2.2.2.2.2.2) then
 some (.inr (.inr ([], r2.1, r2.2.1, r2.2.2.1, r2.2.2.2.1, r2.2.2.2.2.1, r2.2.2.2.2.2.1, r2.2.2.2.2.2.2.2)))
 else none
 else
 bif Nat.beq (List.length j4) (List.length j4) then
 winK r2.2.2.2.2.2.2.1 0 (List.length r2.2.2.2.2.2.2.1) fun w3 =>
 appG (List.length j4) (List.length w3) 1 fun _ =>
 bif Nat.beq (List.length r2.2.2.2.2.2.2.2) (List.length r2.2.2.2.2.2.2.2) then
 bif Nat.beq (List.length (j4 ++ w3)) (List.length (j4 ++ w3)) then
 some (.inl (W64 (i + 1), r2.2.1, r2.2.2.1, r2.2.2.2.1, r2.2.2.2.2.1, r2.2.2.2.2.2.1, j, j2, j3, r2.2.2.2.2.2.2.2, j4 ++ w3))
 else none
 else none
 else none
 else none
 else
 bif Nat.beq (List.length d6) (List.length d6) then
 bif Nat.beq (List.length j4) (List.length j4) then
 some (.inr (.inl (d, d2, d3, d4, d5, j, j2, j3, d6, j4)))
 else none
 else none
def z1n (s : z7l) : Option (z7l ⊕ zc0) := z2w s.1 s.2.1 s.2.2.1 s.2.2.2.1 s.2.2.2.2.1 s.2.2.2.2.2.1 s.2.2.2.2.2.2.1 s.2.2.2.2.2.2.2.1 s.2.2.2.2.2.2.2.2.1 s.2.2.2.2.2.2.2.2.2.1 s.2.2.2.2.2.2.2.2.2.2
theorem zkg : SoundD Try.prog (.loop (subC (bodyC Try.f10) [1, 1, 1, 1, 1, 1, 0, 1, 0, 0])) (loopD z2p.xe z2t (loopC z1n)) :=
 z0y (S := z2p.xe) (X := z2t) zkp (h := .no) (z0d [] (by kernel_rfl) trivial) (z0a z2p) ziv z1n (fun s => by kernel_rfl)
def zsu : Shp := ⟨1, 1, [(0, .tu [.c .nilp, .d c5, .d (.int .i64)])], [.var 71 (.ag [.wn 1 c1, .d c2, .d (.int .i64), .d c3, .d (.int .i64), .d .bool]), .row 86 c1]⟩
def zso : Shp := ⟨1, 1, [(0, .tu [.pt 1 r6 [], .wn 2 (.sl (.int .u8)), .d (.int .i64)])], [.var 71 (.ag [.wn 3 c1, .d c2, .d (.int .i64), .d c3, .d (.int .i64), .d .bool]), .var 75 (.ag [.pt 0 r0 [], .d c4, .d (.sl (.int .u8)), .d (.int .i64), .d .bool]), .row 34 (.sl (.int .u8)), .row 86 c1]⟩
def zwp : XS := .or .ret zsu.xe (.one .ret zso.xe)
theorem z15f : zwp.OK := XS.or_ok (z0a zsu) (XS.one_ok (z0a zso))
def z5s (d : List T0) (d2 : Int) (d3 : T1) (d4 : Int) (d5 : Bool) (d6 : List (List Int)) : Option (((List (List Int)) × Int × (List T0) × Int × T1 × Int × Bool × (List (List Int))) ⊕ (Int × (List T0) × Int × T1 × Int × Bool × T2 × (List Int) × Int × Bool × (List (List Int)) × (List (List Int)))) :=
 winK d6 0 (List.length d6) fun w =>
 (z6y (w, d, d2, d3, d4, d5)).bind fun r =>
 bif ltI r 6 then
 bif Nat.beq (List.length d6) (List.length d6) then
 some (.inl ([], 1, d, d2, d3, d4, d5, d6))
 else none
 else
 winK d6 0 (List.length d6) fun w2 =>
 (z4o (w2, d, d2, d3, d4, d5)).bind fun r2 =>
 bif Nat.beq (List.length d6) (List.length d6) then
 bif Nat.beq 0 (List.length ([] : List Int)) then
 (loopC z1l (W64 (r2 * 256), 0, d, d2, d3, d4, d5, (0, 0, 0), 0, false, d6, ([] : List Int))).bind fun o =>
 Sum.elim (fun y =>
 bif eqI y.2.2.2.2.2.1.1 0 then
 bif Nat.beq (List.length y.2.2.2.2.2.2.2.2.2) (List.length y.2.2.2.2.2.2.2.2.2) then
 bif Nat.beq (List.length y.2.2.2.2.2.2.2.2.1) (List.length y.2.2.2.2.2.2.2.2.1) then
 (zam (1, 0, 0) y.2.2.2.2.2.1 y.2.2.2.2.2.2.1 y.2.2.2.2.2.2.2.1 y.1 y.2.1 y.2.2.1 y.2.2.2.1 y.2.2.2.2.1 y.2.2.2.2.2.2.2.2.2 y.2.2.2.2.2.2.2.2.1).bind fun r3 =>
 bif neI r3.1 0 then
 bif Nat.beq (List.length r3.2.2.2.2.2.2.2.2.2.2) (List.length r3.2.2.2.2.2.2.2.2.2.2) then
 some (.inl ([], r3.1, r3.2.2.2.2.2.1, r3.2.2.2.2.2.2.1, r3.2.2.2.2.2.2.2.1, r3.2.2.2.2.2.2.2.2.1, r3.2.2.2.2.2.2.2.2.2.1, r3.2.2.2.2.2.2.2.2.2.2))
 else none
 else
 bif Nat.beq 0 (List.length ([] : List (List Int))) then
 bif Nat.beq (List.length r3.2.2.2.2.2.2.2.2.2.2) (List.length r3.2.2.2.2.2.2.2.2.2.2) then
 some (.inr (0, r3.2.2.2.2.2.1, r3.2.2.2.2.2.2.1, r3.2.2.2.2.2.2.2.1, r3.2.2.2.2.2.2.2.2.1, r3.2.2.2.2.2.2.2.2.2.1, r3.2.1, r3.2.2.1, r3.2.2.2.1, r3.2.2.2.2.1, ([] : List (List Int)), r3.2.2.2.2.2.2.2.2.2.2))
 else none
 else none
 else none
 else none
 else
 bif Nat.beq (List.length y.2.2.2.2.2.2.2.2.1) (List.length y.2.2.2.2.2.2.2.2.1) then
 bif Nat.beq (List.length y.2.2.2.2.2.2.2.2.2) (List.length y.2.2.2.2.2.2.2.2.2) then
 (loopC z1n (0, y.1, y.2.1, y.2.2.1, y.2.2.2.1, y.2.2.2.2.1, y.2.2.2.2.2.1, y.2.2.2.2.2.2.1, y.2.2.2.2.2.2.2.1, y.2.2.2.2.2.2.2.2.1, y.2.2.2.2.2.2.2.2.2)).bind fun o2 =>
 Sum.elim (fun y3 =>
 bif subOk 0 y3.2.2.2.2.2.1.2.2 (List.length y3.2.2.2.2.2.2.2.2.2) && eqI y3.2.2.2.2.2.1.2.2 y3.2.2.2.2.2.1.2.2 then
 (zfh (List.replicate y3.2.2.2.2.2.1.2.2.toNat true) y3.2.2.2.2.2.2.2.2.2).bind fun r4 =>
 bif neI r4.1 0 then
 bif Nat.beq (List.length y3.2.2.2.2.2.2.2.2.1) (List.length y3.2.2.2.2.2.2.2.2.1) then
 some (.inl ([], r4.1, y3.1, y3.2.1, y3.2.2.1, y3.2.2.2.1, y3.2.2.2.2.1, y3.2.2.2.2.2.2.2.2.1))
 else none
 else
 z0i (List.length r4.2.2) (
 winK r4.2.1 0 y3.2.2.2.2.2.1.2.2.toNat fun w3 =>
 bif Nat.beq (List.length r4.2.2) (List.length r4.2.2) then
 bif Nat.beq (List.length y3.2.2.2.2.2.2.2.2.1) (List.length y3.2.2.2.2.2.2.2.2.1) then
 some (.inr (0, y3.1, y3.2.1, y3.2.2.1, y3.2.2.2.1, y3.2.2.2.2.1, y3.2.2.2.2.2.1, w3, (List.length r4.2.2 : Nat), y3.2.2.2.2.2.2.2.1, r4.2.2, y3.2.2.2.2.2.2.2.2.1))
 else none
 else none)
 else none) (fun y4 =>
 bif Nat.beq (List.length y4.2.2.2.2.2.2.2) (List.length y4.2.2.2.2.2.2.2) then
 some (.inl (y4.1, y4.2.1, y4.2.2.1, y4.2.2.2.1, y4.2.2.2.2.1, y4.2.2.2.2.2.1, y4.2.2.2.2.2.2.1, y4.2.2.2.2.2.2.2))
 else none) o2
 else none
 else none) (fun y2 =>
 bif Nat.beq (List.length y2.2.2.2.2.2.2.2) (List.length y2.2.2.2.2.2.2.2) then
 some (.inl (y2.1, y2.2.1, y2.2.2.1, y2.2.2.2.1, y2.2.2.2.2.1, y2.2.2.2.2.2.1, y2.2.2.2.2.2.2.1, y2.2.2.2.2.2.2.2))
 else none) o
 else none
 else none
def znz : Sig := ⟨10, [.pt 0 r0 []], [.var 71 (.ag [.wn 1 c1, .d c2, .d (.int .i64), .d c3, .d (.int .i64), .d .bool]), .row 86 c1], 1, zwp⟩
def zmc (x : (List T0) × Int × T1 × Int × Bool × (List (List Int))) : Option (((List (List Int)) × Int × (List T0) × Int × T1 × Int × Bool × (List (List Int))) ⊕ (Int × (List T0) × Int × T1 × Int × Bool × T2 × (List Int) × Int × Bool × (List (List Int)) × (List (List Int)))) := z5s x.1 x.2.1 x.2.2.1 x.2.2.2.1 x.2.2.2.2.1 x.2.2.2.2.2
theorem zu9 : FnOK Try.prog znz zmc :=
 fn_ok zkp (h := (.two .no (.two .no (.two .no (.two .no (.two (.two .no (.over (loopD z4b.xe z4g (loopC z1l)))) (.two .no (.two (.two .no (.over (loopD z2p.xe z2t (loopC z1n)))) .no)))))))) Try.func10 (z0d [.den (.loop (subC (bodyC Try.f10) [1, 1, 1, 1, 0, 1, 0, 0])) (loopD z4b.xe z4g (loopC z1l)), .den (.loop (subC (bodyC Try.f10) [1, 1, 1, 1, 1, 1, 0, 1, 0, 0])) (loopD z2p.xe z2t (loopC z1n))] (by kernel_rfl) ⟨znw, zkg, trivial⟩) (by kernel_rfl) z15f (fun x => by kernel_rfl)
def ztq : Env := ⟨[], [], []⟩
theorem zqr : EnvsOK Try.prog ztq := ⟨z0j _, z0g _, z0f _⟩
def zf2 : Shp := ⟨1, 0, [(0, .d .bool)], []⟩
def zhf : XS := .one .ret zf2.xe
theorem zpz : zhf.OK := XS.one_ok (z0a zf2)
def z6s (j : T3) (j2 : T2) (j3 : List Int) (j4 : Int) (j5 : Bool) : Option ((Bool)) :=
 some j5
def zbr : Sig := ⟨15, [.rf (.ag [.rf (.d c8), .d c4, .d (.sl (.int .u8)), .d (.int .i64), .d .bool])], [], 0, zhf⟩
def zb2 (x : T3 × T2 × (List Int) × Int × Bool) : Option ((Bool)) := z6s x.1 x.2.1 x.2.2.1 x.2.2.2.1 x.2.2.2.2
theorem zfy : FnOK Try.prog zbr zb2 :=
 fn_ok zqr (h := .no) Try.func15 (z0d [] (by kernel_rfl) trivial) (by kernel_rfl) zpz (fun x => by kernel_rfl)
def zy2 : Env := ⟨[(entQ zba zak), (entQ zt9 zqo)], [(entP z9t z9c)], []⟩
theorem zv3 : EnvsOK Try.prog zy2 := ⟨z0c (z0e ze9) (z0c (z0e z11y) (z0j _)), z0l (z0t zc1) (z0g _), z0f _⟩
def zic : Shp := ⟨1, 2, [(0, .d (.int .i64))], [.var 71 (.ag [.wn 2 c1, .d c2, .d (.int .i64), .d c3, .d (.int .i64), .d .bool]), .row 5 (.int .u8), .row 86 c1]⟩
def zlx : XS := .one .ret zic.xe
theorem ztf : zlx.OK := XS.one_ok (z0a zic)
def z9b (i : Int) (d : List T0) (d2 : Int) (d3 : T1) (d4 : Int) (d5 : Bool) (b : List Int) (d6 : List (List Int)) : Option ((Int × (List T0) × Int × T1 × Int × Bool × (List Int) × (List (List Int)))) :=
 winK d6 0 (List.length d6) fun w =>
 (z7q (w, d, d2, d3, d4, d5) i).bind fun r =>
 bif neI r 0 then
 bif Nat.beq (List.length d6) (List.length d6) then
 some (r, d, d2, d3, d4, d5, b, d6)
 else none
 else
 z0i (List.length b) (
 bif neI (List.length b : Nat) 256 then
 bif Nat.beq (List.length d6) (List.length d6) then
 some (1, d, d2, d3, d4, d5, b, d6)
 else none
 else
 winK b 0 (List.length b) fun w2 =>
 bif Nat.ble 256 (List.length (List.replicate 256 (0 : Int))) then
 (zmm d).bind fun r2 =>
 appG (List.length r2) (List.length (([(i, cpyL (List.replicate 256 (0 : Int)) 0 256 w2)] : List T0))) 264 fun _ =>
 bif Nat.beq (List.length d6) (List.length d6) then
 (z5u (r2 ++ (([(i, cpyL (List.replicate 256 (0 : Int)) 0 256 w2)] : List T0))) d2 d3 d4 d5 d6).bind fun r3 =>
 bif Nat.beq (List.length r3.2.2.2.2.2.2) (List.length r3.2.2.2.2.2.2) then
 some (r3.1, r3.2.1, r3.2.2.1, r3.2.2.2.1, r3.2.2.2.2.1, r3.2.2.2.2.2.1, b, r3.2.2.2.2.2.2)
 else none
 else none
 else none)
def zlg : Sig := ⟨53, [.pt 0 r0 [], .d (.int .i64), .wn 1 (.int .u8)], [.var 71 (.ag [.wn 2 c1, .d c2, .d (.int .i64), .d c3, .d (.int .i64), .d .bool]), .row 5 (.int .u8), .row 86 c1], 2, zlx⟩
def zjw (x : Int × (List T0) × Int × T1 × Int × Bool × (List Int) × (List (List Int))) : Option ((Int × (List T0) × Int × T1 × Int × Bool × (List Int) × (List (List Int)))) := z9b x.1 x.2.1 x.2.2.1 x.2.2.2.1 x.2.2.2.2.1 x.2.2.2.2.2.1 x.2.2.2.2.2.2.1 x.2.2.2.2.2.2.2
theorem zxn : FnOK Try.prog zlg zjw :=
 fn_ok zv3 (h := .no) Try.func53 (z0d [] (by kernel_rfl) trivial) (by kernel_rfl) ztf (fun x => by kernel_rfl)
def zw1 : Env := ⟨[(entQ z4h z3o)], [(entP zd9 zco), (entP z9d z8g)], []⟩
theorem ztu : EnvsOK Try.prog zw1 := ⟨z0c (z0e z5q) (z0j _), z0l (z0t zju) (z0l (z0t zbv) (z0g _)), z0f _⟩
def zer : Shp := ⟨34, 2, [(0, .pt 0 r6 []), (3, .pt 2 r7 []), (5, .d (.int .i64))], [.var 75 (.ag [.pt 1 r0 [], .d c4, .d (.sl (.int .u8)), .d (.int .i64), .d .bool]), .var 71 (.ag [.wn 3 c1, .d c2, .d (.int .i64), .d c3, .d (.int .i64), .d .bool]), .var 73 (.d c4), .row 86 c1]⟩
def zaz : XS := .one .normal zer.xe
theorem zpj : zaz.OK := XS.one_ok (z0a zer)
def zgv : Shp := ⟨1, 2, [(0, .d (.int .i64))], [.var 75 (.ag [.pt 1 r0 [], .d c4, .d (.sl (.int .u8)), .d (.int .i64), .d .bool]), .var 71 (.ag [.wn 2 c1, .d c2, .d (.int .i64), .d c3, .d (.int .i64), .d .bool]), .row 86 c1]⟩
def zkl : XS := .one .ret zgv.xe
theorem zsn : zkl.OK := XS.one_ok (z0a zgv)
def zan (t : T2) (j : T2) (j2 : List Int) (j3 : Int) (j4 : Bool) (j5 : List T0) (j6 : Int) (j7 : T1) (j8 : Int) (j9 : Bool) (j10 : List (List Int)) : Option ((Int × T2 × (List Int) × Int × Bool × (List T0) × Int × T1 × Int × Bool × (List (List Int)))) :=
 (z1y t).bind fun r =>
 bif Nat.beq (List.length j10) (List.length j10) then
 (z8r (W64 (Int.tmod t.1 2)) r j5 j6 j7 j8 j9 j10).bind fun r2 =>
 (show Option ((Int × T2 × (List Int) × Int × Bool × (List T0) × Int × T1 × Int × Bool × T2 × (List (List Int)))) from
 bif eqI r2.1 0 then
 bif Nat.beq (List.length r2.2.2.2.2.2.2) (List.length r2.2.2.2.2.2.2) then
 (z4w r2.2.1 r2.2.2.1 r2.2.2.2.1 r2.2.2.2.2.1 r2.2.2.2.2.2.1 r2.2.2.2.2.2.2).bind fun r3 =>
 bif Nat.beq (List.length r3.2.2.2.2.2.2) (List.length r3.2.2.2.2.2.2) then
 some (r3.1, j, j2, j3, j4, r3.2.1, r3.2.2.1, r3.2.2.2.1, r3.2.2.2.2.1, r3.2.2.2.2.2.1, t, r3.2.2.2.2.2.2)
 else none
 else none
 else
 bif Nat.beq (List.length r2.2.2.2.2.2.2) (List.length r2.2.2.2.2.2.2) then
 some (r2.1, j, j2, j3, j4, r2.2.1, r2.2.2.1, r2.2.2.2.1, r2.2.2.2.2.1, r2.2.2.2.2.2.1, t, r2.2.2.2.2.2.2)
 else none).bind fun j11 =>
 bif neI j11.1 0 then
 bif Nat.beq (List.length j11.2.2.2.2.2.2.2.2.2.2.2) (List.length j11.2.2.2.2.2.2.2.2.2.2.2) then
 some (j11.1, j11.2.1, j11.2.2.1, j11.2.2.2.1, true, j11.2.2.2.2.2.1, j11.2.2.2.2.2.2.1, j11.2.2.2.2.2.2.2.1, j11.2.2.2.2.2.2.2.2.1, j11.2.2.2.2.2.2.2.2.2.1, j11.2.2.2.2.2.2.2.2.2.2.2)
 else none
 else
 bif Nat.beq (List.length j11.2.2.2.2.2.2.2.2.2.2.2) (List.length j11.2.2.2.2.2.2.2.2.2.2.2) then
 some (0, j11.2.2.2.2.2.2.2.2.2.2.1, j11.2.2.1, j11.2.2.2.1, j11.2.2.2.2.1, j11.2.2.2.2.2.1, j11.2.2.2.2.2.2.1, j11.2.2.2.2.2.2.2.1, j11.2.2.2.2.2.2.2.2.1, j11.2.2.2.2.2.2.2.2.2.1, j11.2.2.2.2.2.2.2.2.2.2.2)
 else none
 else none
def zkw : Sig := ⟨33, [.pt 0 r6 [], .d c4], [.var 75 (.ag [.pt 1 r0 [], .d c4, .d (.sl (.int .u8)), .d (.int .i64), .d .bool]), .var 71 (.ag [.wn 2 c1, .d c2, .d (.int .i64), .d c3, .d (.int .i64), .d .bool]), .row 86 c1], 2, zkl⟩
def ziq (x : T2 × T2 × (List Int) × Int × Bool × (List T0) × Int × T1 × Int × Bool × (List (List Int))) : Option ((Int × T2 × (List Int) × Int × Bool × (List T0) × Int × T1 × Int × Bool × (List (List Int)))) := zan x.1 x.2.1 x.2.2.1 x.2.2.2.1 x.2.2.2.2.1 x.2.2.2.2.2.1 x.2.2.2.2.2.2.1 x.2.2.2.2.2.2.2.1 x.2.2.2.2.2.2.2.2.1 x.2.2.2.2.2.2.2.2.2.1 x.2.2.2.2.2.2.2.2.2.2
theorem zv4 : FnOK Try.prog zkw ziq :=
 fn_ok ztu (h := (.two .no (.two (.reg [] [10, 0, 1]) (.join (fun _ => zaz) .no .no)))) Try.func33 (z0d [.xs (fun _ => zaz)] (by kernel_rfl) ⟨(za1 zpj), trivial⟩) (by kernel_rfl) zsn (fun x => by kernel_rfl)
def zy8 : Env := ⟨[(entQ z5z z5a), (entQ zek zda)], [(entP zlg zjw), (entP z9d z8g), (entP zkw ziq)], []⟩
theorem zio : EnvsOK Try.prog zy8 := ⟨z0c (z0e z6x) (z0c (z0e zld) (z0j _)), z0l (z0t zxn) (z0l (z0t zbv) (z0l (z0t zv4) (z0g _))), z0f _⟩
def zbi : Shp := ⟨99, 2, [(0, .pt 0 r6 []), (1, .d (.int .i64)), (3, .d (.sl (.int .u8))), (4, .d (.int .i64))], [.var 75 (.ag [.pt 1 r0 [], .d c4, .d (.sl (.int .u8)), .d (.int .i64), .d .bool]), .var 71 (.ag [.wn 2 c1, .d c2, .d (.int .i64), .d c3, .d (.int .i64), .d .bool]), .row 86 c1]⟩
def zbc : Shp := ⟨99, 2, [(10, .d (.int .i64))], [.var 75 (.ag [.pt 1 r0 [], .d c4, .d (.sl (.int .u8)), .d (.int .i64), .d .bool]), .var 71 (.ag [.wn 2 c1, .d c2, .d (.int .i64), .d c3, .d (.int .i64), .d .bool]), .row 86 c1]⟩
def z3a : XS := .or (.exit 0) zbi.xe (.one .ret zbc.xe)
theorem zjc : z3a.OK := XS.or_ok (z0a zbi) (XS.one_ok (z0a zbc))
def z3b : Shp := ⟨99, 2, [(0, .pt 0 r6 []), (1, .d (.int .i64)), (3, .d (.sl (.int .u8))), (4, .d (.int .i64)), (11, .d (.int .i64))], [.var 75 (.ag [.pt 1 r0 [], .d c4, .d (.sl (.int .u8)), .d (.int .i64), .d .bool]), .var 71 (.ag [.wn 2 c1, .d c2, .d (.int .i64), .d c3, .d (.int .i64), .d .bool]), .row 86 c1]⟩
abbrev z7s := Int × (List Int) × Int × Int × T2 × (List Int) × Int × Bool × (List T0) × Int × T1 × Int × Bool × (List (List Int))
abbrev zc9 := (Int × (List Int) × Int × T2 × (List Int) × Int × Bool × (List T0) × Int × T1 × Int × Bool × (List (List Int))) ⊕ (Int × T2 × (List Int) × Int × Bool × (List T0) × Int × T1 × Int × Bool × (List (List Int)))
def z3c (side : Int) (all : List Int) (count : Int) (i : Int) (j : T2) (j2 : List Int) (j3 : Int) (j4 : Bool) (j5 : List T0) (j6 : Int) (j7 : T1) (j8 : Int) (j9 : Bool) (j10 : List (List Int)) : Option (z7s ⊕ zc9) :=
 z0i (List.length all) (
 bif ltI (W64 (i * 256)) (List.length all : Nat) then
 bif subOk (W64 (i * 256)) (List.length all : Nat) (List.length all) then
 bif Nat.ble 256 (List.length (List.replicate 256 (0 : Int))) then
 winK j10 0 (List.length j10) fun w =>
 (z9q (w, j5, j6, j7, j8, j9) j j2 j3 j4 side i).bind fun r =>
 bif Nat.beq 256 (List.length (cpyL (List.replicate 256 (0 : Int)) 0 256 (subL all (W64 (i * 256)) (List.length all : Nat)))) then
 bif Nat.beq (List.length j10) (List.length j10) then
 (z9b r j5 j6 j7 j8 j9 (cpyL (List.replicate 256 (0 : Int)) 0 256 (subL all (W64 (i * 256)) (List.length all : Nat))) j10).bind fun r2 =>
 bif neI r2.1 0 then
 bif Nat.beq (List.length r2.2.2.2.2.2.2.2) (List.length r2.2.2.2.2.2.2.2) then
 some (.inr (.inr (r2.1, j, j2, j3, true, r2.2.1, r2.2.2.1, r2.2.2.2.1, r2.2.2.2.2.1, r2.2.2.2.2.2.1, r2.2.2.2.2.2.2.2)))
 else none
 else
 bif Nat.beq (List.length r2.2.2.2.2.2.2.2) (List.length r2.2.2.2.2.2.2.2) then
 some (.inl (side, all, count, W64 (i + 1), j, j2, j3, j4, r2.2.1, r2.2.2.1, r2.2.2.2.1, r2.2.2.2.2.1, r2.2.2.2.2.2.1, r2.2.2.2.2.2.2.2))
 else none
 else none
 else none
 else none
 else none
 else
 bif Nat.beq (List.length j10) (List.length j10) then
 some (.inr (.inl (side, all, count, j, j2, j3, j4, j5, j6, j7, j8, j9, j10)))
 else none)
def z1x (s : z7s) : Option (z7s ⊕ zc9) := z3c s.1 s.2.1 s.2.2.1 s.2.2.2.1 s.2.2.2.2.1 s.2.2.2.2.2.1 s.2.2.2.2.2.2.1 s.2.2.2.2.2.2.2.1 s.2.2.2.2.2.2.2.2.1 s.2.2.2.2.2.2.2.2.2.1 s.2.2.2.2.2.2.2.2.2.2.1 s.2.2.2.2.2.2.2.2.2.2.2.1 s.2.2.2.2.2.2.2.2.2.2.2.2.1 s.2.2.2.2.2.2.2.2.2.2.2.2.2
theorem zl1 : SoundD Try.prog (.loop (subC (bodyC Try.f37) [1, 1, 0, 1, 0, 0])) (loopD z3b.xe z3a (loopC z1x)) :=
 z0y (S := z3b.xe) (X := z3a) zio (h := (.two .no (.two (.two .no (.two .no (.two (.reg [] [9, 0, 1]) .no))) .no))) (z0d [] (by kernel_rfl) trivial) (z0a z3b) zjc z1x (fun s => by kernel_rfl)
def zi3 : Shp := ⟨1, 2, [(0, .d (.int .i64))], [.var 75 (.ag [.pt 1 r0 [], .d c4, .d (.sl (.int .u8)), .d (.int .i64), .d .bool]), .var 71 (.ag [.wn 2 c1, .d c2, .d (.int .i64), .d c3, .d (.int .i64), .d .bool]), .row 86 c1]⟩
def zlw : XS := .one .ret zi3.xe
theorem ztn : zlw.OK := XS.one_ok (z0a zi3)
def z8s (side : Int) (there : Int) (all : List Int) (count : Int) (j : T2) (j2 : List Int) (j3 : Int) (j4 : Bool) (j5 : List T0) (j6 : Int) (j7 : T1) (j8 : Int) (j9 : Bool) (j10 : List (List Int)) : Option ((Int × T2 × (List Int) × Int × Bool × (List T0) × Int × T1 × Int × Bool × (List (List Int)))) :=
 bif eqI j.1 4611686018427387904 then
 bif Nat.beq (List.length j10) (List.length j10) then
 some (5, j, j2, j3, j4, j5, j6, j7, j8, j9, j10)
 else none
 else
 z0i (List.length all) (
 winK j10 0 (List.length j10) fun w =>
 (z4o (w, j5, j6, j7, j8, j9)).bind fun r =>
 bif ltI (W64 (r * 256)) (List.length all : Nat) then
 bif Nat.beq (List.length j10) (List.length j10) then
 some (5, j, j2, j3, j4, j5, j6, j7, j8, j9, j10)
 else none
 else
 bif Nat.beq (List.length j10) (List.length j10) then
 (loopC z1x (side, all, count, W64 (Int.tdiv there 256), j, j2, j3, j4, j5, j6, j7, j8, j9, j10)).bind fun o =>
 Sum.elim (fun y =>
 bif Nat.beq (List.length y.2.2.2.2.2.2.2.2.2.2.2.2) (List.length y.2.2.2.2.2.2.2.2.2.2.2.2) then
 (z4w y.2.2.2.2.2.2.2.1 y.2.2.2.2.2.2.2.2.1 y.2.2.2.2.2.2.2.2.2.1 y.2.2.2.2.2.2.2.2.2.2.1 y.2.2.2.2.2.2.2.2.2.2.2.1 y.2.2.2.2.2.2.2.2.2.2.2.2).bind fun r2 =>
 bif neI r2.1 0 then
 bif Nat.beq (List.length r2.2.2.2.2.2.2) (List.length r2.2.2.2.2.2.2) then
 some (r2.1, y.2.2.2.1, y.2.2.2.2.1, y.2.2.2.2.2.1, true, r2.2.1, r2.2.2.1, r2.2.2.2.1, r2.2.2.2.2.1, r2.2.2.2.2.2.1, r2.2.2.2.2.2.2)
 else none
 else
 z0i (List.length y.2.1) (
 bif Nat.beq (List.length r2.2.2.2.2.2.2) (List.length r2.2.2.2.2.2.2) then
 (zan (WU64 (y.2.2.2.1.1 + 1), y.1, (List.length y.2.1 : Nat)) y.2.2.2.1 y.2.2.2.2.1 y.2.2.2.2.2.1 y.2.2.2.2.2.2.1 r2.2.1 r2.2.2.1 r2.2.2.2.1 r2.2.2.2.2.1 r2.2.2.2.2.2.1 r2.2.2.2.2.2.2).bind fun r3 =>
 bif neI r3.1 0 then
 bif Nat.beq (List.length r3.2.2.2.2.2.2.2.2.2.2) (List.length r3.2.2.2.2.2.2.2.2.2.2) then
 some (r3.1, r3.2.1, r3.2.2.1, r3.2.2.2.1, r3.2.2.2.2.1, r3.2.2.2.2.2.1, r3.2.2.2.2.2.2.1, r3.2.2.2.2.2.2.2.1, r3.2.2.2.2.2.2.2.2.1, r3.2.2.2.2.2.2.2.2.2.1, r3.2.2.2.2.2.2.2.2.2.2)
 else none
 else
 bif Nat.beq (List.length r3.2.2.2.2.2.2.2.2.2.2) (List.length r3.2.2.2.2.2.2.2.2.2.2) then
 some (0, r3.2.1, y.2.1, y.2.2.1, r3.2.2.2.2.1, r3.2.2.2.2.2.1, r3.2.2.2.2.2.2.1, r3.2.2.2.2.2.2.2.1, r3.2.2.2.2.2.2.2.2.1, r3.2.2.2.2.2.2.2.2.2.1, r3.2.2.2.2.2.2.2.2.2.2)
 else none
 else none)
 else none) (fun y2 =>
 bif Nat.beq (List.length y2.2.2.2.2.2.2.2.2.2.2) (List.length y2.2.2.2.2.2.2.2.2.2.2) then
 some (y2.1, y2.2.1, y2.2.2.1, y2.2.2.2.1, y2.2.2.2.2.1, y2.2.2.2.2.2.1, y2.2.2.2.2.2.2.1, y2.2.2.2.2.2.2.2.1, y2.2.2.2.2.2.2.2.2.1, y2.2.2.2.2.2.2.2.2.2.1, y2.2.2.2.2.2.2.2.2.2.2)
 else none) o
 else none)
def zdb : Sig := ⟨37, [.pt 0 r6 [], .d (.int .i64), .d (.int .i64), .d (.sl (.int .u8)), .d (.int .i64)], [.var 75 (.ag [.pt 1 r0 [], .d c4, .d (.sl (.int .u8)), .d (.int .i64), .d .bool]), .var 71 (.ag [.wn 2 c1, .d c2, .d (.int .i64), .d c3, .d (.int .i64), .d .bool]), .row 86 c1], 2, zlw⟩
def zcn (x : Int × Int × (List Int) × Int × T2 × (List Int) × Int × Bool × (List T0) × Int × T1 × Int × Bool × (List (List Int))) : Option ((Int × T2 × (List Int) × Int × Bool × (List T0) × Int × T1 × Int × Bool × (List (List Int)))) := z8s x.1 x.2.1 x.2.2.1 x.2.2.2.1 x.2.2.2.2.1 x.2.2.2.2.2.1 x.2.2.2.2.2.2.1 x.2.2.2.2.2.2.2.1 x.2.2.2.2.2.2.2.2.1 x.2.2.2.2.2.2.2.2.2.1 x.2.2.2.2.2.2.2.2.2.2.1 x.2.2.2.2.2.2.2.2.2.2.2.1 x.2.2.2.2.2.2.2.2.2.2.2.2.1 x.2.2.2.2.2.2.2.2.2.2.2.2.2
theorem zj3 : FnOK Try.prog zdb zcn :=
 fn_ok zio (h := (.two .no (.two .no (.two (.two .no (.over (loopD z3b.xe z3a (loopC z1x)))) .no)))) Try.func37 (z0d [.den (.loop (subC (bodyC Try.f37) [1, 1, 0, 1, 0, 0])) (loopD z3b.xe z3a (loopC z1x))] (by kernel_rfl) ⟨zl1, trivial⟩) (by kernel_rfl) ztn (fun x => by kernel_rfl)
def zyh : Env := ⟨[(entQ zbr zb2), (entQ z5z z5a), (entQ zfd zdp), (entQ zmj zk8)], [(entP zdb zcn)], []⟩
theorem zv0 : EnvsOK Try.prog zyh := ⟨z0c (z0e zfy) (z0c (z0e z6x) (z0c (z0e zi7) (z0c (z0e zsd) (z0j _)))), z0l (z0t zj3) (z0g _), z0f _⟩
def zhw : Shp := ⟨1, 2, [(0, .d (.int .i64))], [.var 75 (.ag [.pt 1 r0 [], .d c4, .d (.sl (.int .u8)), .d (.int .i64), .d .bool]), .var 71 (.ag [.wn 2 c1, .d c2, .d (.int .i64), .d c3, .d (.int .i64), .d .bool]), .row 86 c1]⟩
def zm7 : XS := .one .ret zhw.xe
theorem zt8 : zm7.OK := XS.one_ok (z0a zhw)
def z6m (records : List (List Int)) (j : T2) (j2 : List Int) (j3 : Int) (j4 : Bool) (j5 : List T0) (j6 : Int) (j7 : T1) (j8 : Int) (j9 : Bool) (j10 : List (List Int)) : Option ((Int × T2 × (List Int) × Int × Bool × (List T0) × Int × T1 × Int × Bool × (List (List Int)))) :=
 winK j10 0 (List.length j10) fun w =>
 (z6s (w, j5, j6, j7, j8, j9) j j2 j3 j4).bind fun r =>
 bif r then
 bif Nat.beq (List.length j10) (List.length j10) then
 some (3, j, j2, j3, j4, j5, j6, j7, j8, j9, j10)
 else none
 else
 winK j10 0 (List.length j10) fun w2 =>
 (z4o (w2, j5, j6, j7, j8, j9)).bind fun r2 =>
 (zcw records (W64 (r2 * 256))).bind fun r3 =>
 bif neI r3.2 0 then
 bif Nat.beq (List.length j10) (List.length j10) then
 some (r3.2, j, j2, j3, j4, j5, j6, j7, j8, j9, j10)
 else none
 else
 z0i (List.length records) (
 bif eqI (List.length records : Nat) 0 then
 bif Nat.beq (List.length j10) (List.length j10) then
 some (r3.2, j, j2, j3, j4, j5, j6, j7, j8, j9, j10)
 else none
 else
 z0i (List.length j2) (
 (zdv ([j2, r3.1] : List (List Int))).bind fun r4 =>
 z0i (List.length records) (
 bif Nat.beq (List.length j10) (List.length j10) then
 (z8s j.2.1 (List.length j2 : Nat) r4 (W64 (j3 + (List.length records : Nat))) j j2 j3 j4 j5 j6 j7 j8 j9 j10).bind fun r5 =>
 bif Nat.beq (List.length r5.2.2.2.2.2.2.2.2.2.2) (List.length r5.2.2.2.2.2.2.2.2.2.2) then
 some (r5.1, r5.2.1, r5.2.2.1, r5.2.2.2.1, r5.2.2.2.2.1, r5.2.2.2.2.2.1, r5.2.2.2.2.2.2.1, r5.2.2.2.2.2.2.2.1, r5.2.2.2.2.2.2.2.2.1, r5.2.2.2.2.2.2.2.2.2.1, r5.2.2.2.2.2.2.2.2.2.2)
 else none
 else none)))
def zd7 : Sig := ⟨11, [.pt 0 r6 [], .d c5], [.var 75 (.ag [.pt 1 r0 [], .d c4, .d (.sl (.int .u8)), .d (.int .i64), .d .bool]), .var 71 (.ag [.wn 2 c1, .d c2, .d (.int .i64), .d c3, .d (.int .i64), .d .bool]), .row 86 c1], 2, zm7⟩
def zcd (x : (List (List Int)) × T2 × (List Int) × Int × Bool × (List T0) × Int × T1 × Int × Bool × (List (List Int))) : Option ((Int × T2 × (List Int) × Int × Bool × (List T0) × Int × T1 × Int × Bool × (List (List Int)))) := z6m x.1 x.2.1 x.2.2.1 x.2.2.2.1 x.2.2.2.2.1 x.2.2.2.2.2.1 x.2.2.2.2.2.2.1 x.2.2.2.2.2.2.2.1 x.2.2.2.2.2.2.2.2.1 x.2.2.2.2.2.2.2.2.2.1 x.2.2.2.2.2.2.2.2.2.2
theorem zj8 : FnOK Try.prog zd7 zcd :=
 fn_ok zv0 (h := (.two .no (.two .no (.two .no (.two .no (.two (.reg [] [25, 0, 1]) .no)))))) Try.func11 (z0d [] (by kernel_rfl) trivial) (by kernel_rfl) zt8 (fun x => by kernel_rfl)
def zvx : Env := ⟨[(entQ z5z z5a)], [], []⟩
theorem ztm : EnvsOK Try.prog zvx := ⟨z0c (z0e z6x) (z0j _), z0g _, z0f _⟩
def zhk : Shp := ⟨1, 0, [(0, .d (.int .i64))], []⟩
def zku : XS := .one .ret zhk.xe
theorem zsz : zku.OK := XS.one_ok (z0a zhk)
def z1h (j : T3) (j2 : T2) (j3 : List Int) (j4 : Int) (j5 : Bool) : Option ((Int)) :=
 (z4o j).bind fun r =>
 z0i (List.length j3) (
 some (W64 ((W64 (r * 256)) - (List.length j3 : Nat))))
def zcl : Sig := ⟨13, [.rf (.ag [.rf (.d c8), .d c4, .d (.sl (.int .u8)), .d (.int .i64), .d .bool])], [], 0, zku⟩
def zc4 (x : T3 × T2 × (List Int) × Int × Bool) : Option ((Int)) := z1h x.1 x.2.1 x.2.2.1 x.2.2.2.1 x.2.2.2.2
theorem zib : FnOK Try.prog zcl zc4 :=
 fn_ok ztm (h := .no) Try.func13 (z0d [] (by kernel_rfl) trivial) (by kernel_rfl) zsz (fun x => by kernel_rfl)
def zye : Env := ⟨[], [], []⟩
theorem zvb : EnvsOK Try.prog zye := ⟨z0j _, z0g _, z0f _⟩
def zhz : Shp := ⟨1, 0, [(0, .d (.int .i64))], []⟩
def zm4 : XS := .one .ret zhz.xe
theorem ztt : zm4.OK := XS.one_ok (z0a zhz)
def z8y (j : T3) (j2 : T2) (j3 : List Int) (j4 : Int) (j5 : Bool) : Option ((Int)) :=
 some j4
def zd5 : Sig := ⟨14, [.rf (.ag [.rf (.d c8), .d c4, .d (.sl (.int .u8)), .d (.int .i64), .d .bool])], [], 0, zm4⟩
def zcs (x : T3 × T2 × (List Int) × Int × Bool) : Option ((Int)) := z8y x.1 x.2.1 x.2.2.1 x.2.2.2.1 x.2.2.2.2
theorem zj5 : FnOK Try.prog zd5 zcs :=
 fn_ok zvb (h := .no) Try.func14 (z0d [] (by kernel_rfl) trivial) (by kernel_rfl) ztt (fun x => by kernel_rfl)
def z1g2 : Env := ⟨[(entQ ze4 zd8), (entQ zew zee), (entQ zcl zc4), (entQ zd5 zcs)], [(entP zrj zp1), (entP zo0 zmk), (entP zdd zcv), (entP znz zmc), (entP zd7 zcd)], []⟩
theorem z1cd : EnvsOK Try.prog z1g2 := ⟨z0c (z0e zll) (z0c (z0e znd) (z0c (z0e zib) (z0c (z0e zj5) (z0j _)))), z0l (z0t zz8) (z0l (z0t zu2) (z0l (z0t zkh) (z0l (z0t zu9) (z0l (z0t zj8) (z0g _))))), z0f _⟩
def zx2 : Shp := ⟨72, 0, [(1, .c .nilp)], []⟩
def zxe : Shp := ⟨72, 0, [(1, .pt 0 r0 [])], [.var 71 (.ag [.wn 1 c1, .d c2, .d (.int .i64), .d c3, .d (.int .i64), .d .bool]), .row 86 c1]⟩
def zr4 : XS := .or .normal zx2.xe (.one .normal zxe.xe)
theorem z18z : zr4.OK := XS.or_ok (z0a zx2) (XS.one_ok (z0a zxe))
def zsm : Shp := ⟨72, 0, [(1, .c .nilp), (3, .c .nilp), (4, .d c5), (5, .d (.int .i64))], []⟩
def zsv : Shp := ⟨72, 0, [(1, .c .nilp), (3, .pt 0 r6 []), (4, .wn 1 (.sl (.int .u8))), (5, .d (.int .i64))], [.var 75 (.ag [.c .nilp, .d c4, .d (.sl (.int .u8)), .d (.int .i64), .d .bool]), .row 34 (.sl (.int .u8))]⟩
def znj : XS := .or .normal zsm.xe (.one .normal zsv.xe)
theorem z15l : znj.OK := XS.or_ok (z0a zsm) (XS.one_ok (z0a zsv))
def zu7 : Shp := ⟨72, 0, [(1, .c .nilp)], []⟩
def zn8 : Shp := ⟨72, 0, [(3, .pt 0 r6 []), (4, .d c5), (5, .d (.int .i64))], [.var 75 (.ag [.c .nilp, .d c4, .d (.sl (.int .u8)), .d (.int .i64), .d .bool])]⟩
def zgf : XS := .one .normal zn8.xe
theorem zxy : zgf.OK := XS.one_ok (z0a zn8)
def zot : Shp := ⟨72, 0, [(1, .c .nilp), (3, .pt 0 r6 [])], [.var 75 (.ag [.c .nilp, .d c4, .d (.sl (.int .u8)), .d (.int .i64), .d .bool])]⟩
def zp9 : Shp := ⟨72, 0, [(1, .pt 0 r0 []), (3, .c .nilp), (4, .d c5), (5, .d (.int .i64))], [.var 71 (.ag [.wn 1 c1, .d c2, .d (.int .i64), .d c3, .d (.int .i64), .d .bool]), .row 86 c1]⟩
def zp0 : Shp := ⟨72, 0, [(1, .pt 0 r0 []), (3, .pt 1 r6 []), (4, .wn 2 (.sl (.int .u8))), (5, .d (.int .i64))], [.var 71 (.ag [.wn 3 c1, .d c2, .d (.int .i64), .d c3, .d (.int .i64), .d .bool]), .var 75 (.ag [.pt 0 r0 [], .d c4, .d (.sl (.int .u8)), .d (.int .i64), .d .bool]), .row 34 (.sl (.int .u8)), .row 86 c1]⟩
def zjq : XS := .or .normal zp9.xe (.one .normal zp0.xe)
theorem z10r : zjq.OK := XS.or_ok (z0a zp9) (XS.one_ok (z0a zp0))
def zk3 : Shp := ⟨72, 0, [(3, .pt 0 r6 []), (4, .d c5), (5, .d (.int .i64))], [.var 75 (.ag [.pt 1 r0 [], .d c4, .d (.sl (.int .u8)), .d (.int .i64), .d .bool]), .var 71 (.ag [.wn 2 c1, .d c2, .d (.int .i64), .d c3, .d (.int .i64), .d .bool]), .row 86 c1]⟩
def ze2 : XS := .one .normal zk3.xe
theorem zv1 : ze2.OK := XS.one_ok (z0a zk3)
def zyx : Shp := ⟨1, 0, [(0, .d .bool)], []⟩
def z14u : XS := .one .ret zyx.xe
theorem z1ae : z14u.OK := XS.one_ok (z0a zyx)
def zhn  : Option ((Bool)) :=
 (show Option ((Unit) ⊕ ((List T0) × Int × T1 × Int × Bool × (List (List Int)))) from
 (zfk 6).bind fun r =>
 Sum.elim (fun y =>
 some (.inl ())) (fun y2 =>
 bif Nat.beq (List.length y2.2.2.2.2.2.2) (List.length y2.2.2.2.2.2.2) then
 some (.inr (y2.2.1, y2.2.2.1, y2.2.2.2.1, y2.2.2.2.2.1, y2.2.2.2.2.2.1, y2.2.2.2.2.2.2))
 else none) r).bind fun j =>
 Sum.elim (fun y3 =>
 (show Option (((List (List Int)) × Int) ⊕ (Int × T2 × (List Int) × Int × Bool × (List (List Int)))) from
 (zl5).bind fun r2 =>
 Sum.elim (fun y5 =>
 some (.inl (y5.1, y5.2))) (fun y6 =>
 bif Nat.beq (List.length y6.2.2.2.2.2) (List.length y6.2.2.2.2.2) then
 some (.inr (y6.1, y6.2.1, y6.2.2.1, y6.2.2.2.1, y6.2.2.2.2.1, y6.2.2.2.2.2))
 else none) r2).bind fun j2 =>
 Sum.elim (fun y7 =>
 some false) (fun y8 =>
 z0i (List.length y8.2.2.2.2.2) (
 bif neI (List.length y8.2.2.2.2.2 : Nat) 0 then
 some false
 else
 bif neI y8.1 0 then
 some false
 else
 winK ([97, 98] : List Int) 0 (List.length ([97, 98] : List Int)) fun w =>
 (zfq ([w, []] : List (List Int)) y8.2.1 y8.2.2.1 y8.2.2.2.1 y8.2.2.2.2.1).bind fun r3 =>
 bif neI r3.1 0 then
 some false
 else
 (show Option (((List (List Int)) × Int × T2 × (List Int) × Int × Bool)) from
 (zl5).bind fun r4 =>
 Sum.elim (fun y9 =>
 some (y9.1, y9.2, r3.2.1, r3.2.2.1, r3.2.2.2.1, r3.2.2.2.2)) (fun y10 =>
 winK y10.2.2.2.2.2 0 (List.length y10.2.2.2.2.2) fun w2 =>
 some (w2, y10.1, r3.2.1, r3.2.2.1, r3.2.2.2.1, r3.2.2.2.2)) r4).bind fun j3 =>
 bif eqI j3.2.1 0 then
 z0i (List.length j3.1) (
 bif eqI (List.length j3.1 : Nat) 2 then
 (idxI j3.1 0).bind fun x =>
 bif eqS x ([97, 98] : List Int) then
 (idxI j3.1 1).bind fun x2 =>
 z0i (List.length x2) (
 bif eqI (List.length x2 : Nat) 0 then
 (z4i j3.2.2.1 j3.2.2.2.1 j3.2.2.2.2.1 j3.2.2.2.2.2).bind fun r5 =>
 bif eqI r5 500 then
 (zhs j3.2.2.1 j3.2.2.2.1 j3.2.2.2.2.1 j3.2.2.2.2.2).bind fun r6 =>
 some (eqI r6 2)
 else
 some false
 else
 some false)
 else
 some false
 else
 some false)
 else
 some false)) j2) (fun y4 =>
 (show Option (((List (List Int)) × Int × (List T0) × Int × T1 × Int × Bool × (List (List Int))) ⊕ (Int × (List T0) × Int × T1 × Int × Bool × T2 × (List Int) × Int × Bool × (List (List Int)) × (List (List Int)))) from
 bif Nat.beq (List.length y4.2.2.2.2.2) (List.length y4.2.2.2.2.2) then
 (z5s y4.1 y4.2.1 y4.2.2.1 y4.2.2.2.1 y4.2.2.2.2.1 y4.2.2.2.2.2).bind fun r7 =>
 Sum.elim (fun y11 =>
 bif Nat.beq (List.length y11.2.2.2.2.2.2.2) (List.length y11.2.2.2.2.2.2.2) then
 some (.inl (y11.1, y11.2.1, y11.2.2.1, y11.2.2.2.1, y11.2.2.2.2.1, y11.2.2.2.2.2.1, y11.2.2.2.2.2.2.1, y11.2.2.2.2.2.2.2))
 else none) (fun y12 =>
 bif Nat.beq (List.length y12.2.2.2.2.2.2.2.2.2.2.1) (List.length y12.2.2.2.2.2.2.2.2.2.2.1) then
 bif Nat.beq (List.length y12.2.2.2.2.2.2.2.2.2.2.2) (List.length y12.2.2.2.2.2.2.2.2.2.2.2) then
 some (.inr (y12.1, y12.2.1, y12.2.2.1, y12.2.2.2.1, y12.2.2.2.2.1, y12.2.2.2.2.2.1, y12.2.2.2.2.2.2.1, y12.2.2.2.2.2.2.2.1, y12.2.2.2.2.2.2.2.2.1, y12.2.2.2.2.2.2.2.2.2.1, y12.2.2.2.2.2.2.2.2.2.2.1, y12.2.2.2.2.2.2.2.2.2.2.2))
 else none
 else none) r7
 else none).bind fun j4 =>
 Sum.elim (fun y13 =>
 some false) (fun y14 =>
 z0i (List.length y14.2.2.2.2.2.2.2.2.2.2.1) (
 bif neI (List.length y14.2.2.2.2.2.2.2.2.2.2.1 : Nat) 0 then
 some false
 else
 bif neI y14.1 0 then
 some false
 else
 winK ([97, 98] : List Int) 0 (List.length ([97, 98] : List Int)) fun w3 =>
 bif Nat.beq (List.length y14.2.2.2.2.2.2.2.2.2.2.2) (List.length y14.2.2.2.2.2.2.2.2.2.2.2) then
 (z6m ([w3, []] : List (List Int)) y14.2.2.2.2.2.2.1 y14.2.2.2.2.2.2.2.1 y14.2.2.2.2.2.2.2.2.1 y14.2.2.2.2.2.2.2.2.2.1 y14.2.1 y14.2.2.1 y14.2.2.2.1 y14.2.2.2.2.1 y14.2.2.2.2.2.1 y14.2.2.2.2.2.2.2.2.2.2.2).bind fun r8 =>
 bif neI r8.1 0 then
 some false
 else
 (show Option (((List (List Int)) × Int × T2 × (List Int) × Int × Bool × (List T0) × Int × T1 × Int × Bool × (List (List Int)))) from
 bif Nat.beq (List.length r8.2.2.2.2.2.2.2.2.2.2) (List.length r8.2.2.2.2.2.2.2.2.2.2) then
 (z5s r8.2.2.2.2.2.1 r8.2.2.2.2.2.2.1 r8.2.2.2.2.2.2.2.1 r8.2.2.2.2.2.2.2.2.1 r8.2.2.2.2.2.2.2.2.2.1 r8.2.2.2.2.2.2.2.2.2.2).bind fun r9 =>
 Sum.elim (fun y15 =>
 bif Nat.beq (List.length y15.2.2.2.2.2.2.2) (List.length y15.2.2.2.2.2.2.2) then
 some (y15.1, y15.2.1, r8.2.1, r8.2.2.1, r8.2.2.2.1, r8.2.2.2.2.1, y15.2.2.1, y15.2.2.2.1, y15.2.2.2.2.1, y15.2.2.2.2.2.1, y15.2.2.2.2.2.2.1, y15.2.2.2.2.2.2.2)
 else none) (fun y16 =>
 winK y16.2.2.2.2.2.2.2.2.2.2.1 0 (List.length y16.2.2.2.2.2.2.2.2.2.2.1) fun w4 =>
 bif Nat.beq (List.length y16.2.2.2.2.2.2.2.2.2.2.2) (List.length y16.2.2.2.2.2.2.2.2.2.2.2) then
 some (w4, y16.1, r8.2.1, r8.2.2.1, r8.2.2.2.1, r8.2.2.2.2.1, y16.2.1, y16.2.2.1, y16.2.2.2.1, y16.2.2.2.2.1, y16.2.2.2.2.2.1, y16.2.2.2.2.2.2.2.2.2.2.2)
 else none) r9
 else none).bind fun j5 =>
 bif eqI j5.2.1 0 then
 z0i (List.length j5.1) (
 bif eqI (List.length j5.1 : Nat) 2 then
 (idxI j5.1 0).bind fun x3 =>
 bif eqS x3 ([97, 98] : List Int) then
 (idxI j5.1 1).bind fun x4 =>
 z0i (List.length x4) (
 bif eqI (List.length x4 : Nat) 0 then
 winK j5.2.2.2.2.2.2.2.2.2.2.2 0 (List.length j5.2.2.2.2.2.2.2.2.2.2.2) fun w5 =>
 (z1h (w5, j5.2.2.2.2.2.2.1, j5.2.2.2.2.2.2.2.1, j5.2.2.2.2.2.2.2.2.1, j5.2.2.2.2.2.2.2.2.2.1, j5.2.2.2.2.2.2.2.2.2.2.1) j5.2.2.1 j5.2.2.2.1 j5.2.2.2.2.1 j5.2.2.2.2.2.1).bind fun r10 =>
 bif eqI r10 500 then
 winK j5.2.2.2.2.2.2.2.2.2.2.2 0 (List.length j5.2.2.2.2.2.2.2.2.2.2.2) fun w6 =>
 (z8y (w6, j5.2.2.2.2.2.2.1, j5.2.2.2.2.2.2.2.1, j5.2.2.2.2.2.2.2.2.1, j5.2.2.2.2.2.2.2.2.2.1, j5.2.2.2.2.2.2.2.2.2.2.1) j5.2.2.1 j5.2.2.2.1 j5.2.2.2.2.1 j5.2.2.2.2.2.1).bind fun r11 =>
 some (eqI r11 2)
 else
 some false
 else
 some false)
 else
 some false
 else
 some false)
 else
 some false
 else none)) j4) j
def z14p : Sig := ⟨8, [], [], 0, z14u⟩
def z12c (x : Unit) : Option ((Bool)) := zhn 
theorem z1dr : FnOK Try.prog z14p z12c :=
 fn_ok z1cd (h := (.two .no (.join (fun _ => zr4) .no (.join (altX zu7.fit (fun _ => znj) (fun _ => zjq)) .no (.two (.two (.reg [13, 2000015] []) .no) (.join (altX zot.fit (fun _ => zgf) (fun _ => ze2)) .no .no)))))) Try.func8 (z0d [.xs (fun _ => zr4), .xs (altX zu7.fit (fun _ => znj) (fun _ => zjq)), .xs (altX zot.fit (fun _ => zgf) (fun _ => ze2))] (by kernel_rfl) ⟨(za1 z18z), (z1e8 (za1 z15l) (za1 z10r)), (z1e8 (za1 zxy) (za1 zv1)), trivial⟩) (by kernel_rfl) z1ae (fun x => by kernel_rfl)
def zt1 : Env := ⟨[], [], []⟩
theorem zr3 : EnvsOK Try.prog zt1 := ⟨z0j _, z0g _, z0f _⟩
def zfl : Shp := ⟨1, 0, [(0, .d .bool)], []⟩
def zhb : XS := .one .ret zfl.xe
theorem zq4 : zhb.OK := XS.one_ok (z0a zfl)
def zch  : Option ((Bool)) :=
 some true
def zbw : Sig := ⟨15, [.c .nilp], [], 0, zhb⟩
def zav (x : Unit) : Option ((Bool)) := zch 
theorem zg9 : FnOK Try.prog zbw zav :=
 fn_ok zr3 (h := .no) Try.func15 (z0d [] (by kernel_rfl) trivial) (by kernel_rfl) zq4 (fun x => by kernel_rfl)
def zx5 : Env := ⟨[], [], []⟩
theorem ztw : EnvsOK Try.prog zx5 := ⟨z0j _, z0g _, z0f _⟩
def zgw : Shp := ⟨1, 0, [(0, .d (.int .i64))], []⟩
def zje : XS := .one .ret zgw.xe
theorem zs0 : zje.OK := XS.one_ok (z0a zgw)
def z0u  : Option ((Int)) :=
 some 0
def zkf : Sig := ⟨13, [.c .nilp], [], 0, zje⟩
def zie (x : Unit) : Option ((Int)) := z0u 
theorem zul : FnOK Try.prog zkf zie :=
 fn_ok ztw (h := .no) Try.func13 (z0d [] (by kernel_rfl) trivial) (by kernel_rfl) zs0 (fun x => by kernel_rfl)
def zxw : Env := ⟨[], [], []⟩
theorem zv8 : EnvsOK Try.prog zxw := ⟨z0j _, z0g _, z0f _⟩
def zi0 : Shp := ⟨1, 0, [(0, .d (.int .i64))], []⟩
def zlh : XS := .one .ret zi0.xe
theorem ztk : zlh.OK := XS.one_ok (z0a zi0)
def zf8  : Option ((Int)) :=
 some 0
def zlc : Sig := ⟨14, [.c .nilp], [], 0, zlh⟩
def zko (x : Unit) : Option ((Int)) := zf8 
theorem zxl : FnOK Try.prog zlc zko :=
 fn_ok zv8 (h := .no) Try.func14 (z0d [] (by kernel_rfl) trivial) (by kernel_rfl) ztk (fun x => by kernel_rfl)
def zyd : Env := ⟨[], [], []⟩
theorem zug : EnvsOK Try.prog zyd := ⟨z0j _, z0g _, z0f _⟩
def zi5 : Shp := ⟨1, 0, [(0, .d (.int .i64))], []⟩
def zlt : XS := .one .ret zi5.xe
theorem zte : zlt.OK := XS.one_ok (z0a zi5)
def z4r  : Option ((Int)) :=
 some 0
def zlo : Sig := ⟨16, [.c .nilp], [], 0, zlt⟩
def zk1 (x : Unit) : Option ((Int)) := z4r 
theorem zxu : FnOK Try.prog zlo zk1 :=
 fn_ok zug (h := .no) Try.func16 (z0d [] (by kernel_rfl) trivial) (by kernel_rfl) zte (fun x => by kernel_rfl)
def zyc : Env := ⟨[(entQ zbw zav)], [], []⟩
theorem zve : EnvsOK Try.prog zyc := ⟨z0c (z0e zg9) (z0j _), z0g _, z0f _⟩
def zhu : Shp := ⟨1, 0, [(0, .d (.int .i64))], []⟩
def zli : XS := .one .ret zhu.xe
theorem ztb : zli.OK := XS.one_ok (z0a zhu)
def zf1 (records : List (List Int)) : Option ((Int)) :=
 (zch).bind fun r =>
 bif r then
 some 3
 else
 none
def zm6 : Sig := ⟨11, [.c .nilp, .d c5], [], 0, zli⟩
def zkq (x : (List (List Int))) : Option ((Int)) := zf1 x
theorem zw6 : FnOK Try.prog zm6 zkq :=
 fn_ok zve (h := .no) Try.func11 (z0d [] (by kernel_rfl) trivial) (by kernel_rfl) ztb (fun x => by kernel_rfl)
def zsg : Env := ⟨[(entQ zcr zc6), (entQ z7k z6o), (entQ zfd zdp)], [(entP zde zcu)], []⟩
theorem zq3 : EnvsOK Try.prog zsg := ⟨z0c (z0e zhv) (z0c (z0e z8p) (z0c (z0e zi7) (z0j _))), z0l (z0t zjb) (z0g _), z0f _⟩
def zes : Shp := ⟨1, 1, [(0, .d (.int .i64))], [.var 75 (.ag [.c .nilp, .d c4, .d (.sl (.int .u8)), .d (.int .i64), .d .bool])]⟩
def zfz : XS := .one .ret zes.xe
theorem zpk : zfz.OK := XS.one_ok (z0a zes)
def zia (records : List (List Int)) (j : T2) (j2 : List Int) (j3 : Int) (j4 : Bool) : Option ((Int × T2 × (List Int) × Int × Bool)) :=
 (zeg j j2 j3 j4).bind fun r =>
 bif r then
 some (3, j, j2, j3, j4)
 else
 (za0).bind fun r2 =>
 (zcw records (W64 (r2 * 256))).bind fun r3 =>
 bif neI r3.2 0 then
 some (r3.2, j, j2, j3, j4)
 else
 z0i (List.length records) (
 (zfn (W64 (1 - j.2.1)) 0 r3.1 (List.length records : Nat) j j2 j3 j4).bind fun r4 =>
 some (r4.1, r4.2.1, r4.2.2.1, r4.2.2.2.1, r4.2.2.2.2))
def zga : Sig := ⟨12, [.pt 0 r6 [], .d c5], [.var 75 (.ag [.c .nilp, .d c4, .d (.sl (.int .u8)), .d (.int .i64), .d .bool])], 1, zfz⟩
def zf4 (x : (List (List Int)) × T2 × (List Int) × Int × Bool) : Option ((Int × T2 × (List Int) × Int × Bool)) := zia x.1 x.2.1 x.2.2.1 x.2.2.2.1 x.2.2.2.2
theorem zra : FnOK Try.prog zga zf4 :=
 fn_ok zq3 (h := .no) Try.func12 (z0d [] (by kernel_rfl) trivial) (by kernel_rfl) zpk (fun x => by kernel_rfl)
def zsy : Env := ⟨[(entQ zbw zav)], [], []⟩
theorem zq2 : EnvsOK Try.prog zsy := ⟨z0c (z0e zg9) (z0j _), z0g _, z0f _⟩
def zeo : Shp := ⟨1, 0, [(0, .d (.int .i64))], []⟩
def zgb : XS := .one .ret zeo.xe
theorem zps : zgb.OK := XS.one_ok (z0a zeo)
def zc5 (records : List (List Int)) : Option ((Int)) :=
 (zch).bind fun r =>
 bif r then
 some 3
 else
 none
def zg2 : Sig := ⟨12, [.c .nilp, .d c5], [], 0, zgb⟩
def zf0 (x : (List (List Int))) : Option ((Int)) := zc5 x
theorem zqw : FnOK Try.prog zg2 zf0 :=
 fn_ok zq2 (h := .no) Try.func12 (z0d [] (by kernel_rfl) trivial) (by kernel_rfl) zps (fun x => by kernel_rfl)
def zuu : Env := ⟨[], [], []⟩
theorem zs8 : EnvsOK Try.prog zuu := ⟨z0j _, z0g _, z0f _⟩
def zg1 : Shp := ⟨1, 0, [(0, .d (.int .i64))], []⟩
def zil : XS := .one .ret zg1.xe
theorem zrb : zil.OK := XS.one_ok (z0a zg1)
def z2o (d : T3) : Option ((Int)) :=
 some d.2.2.2.2.1
def zhy : Sig := ⟨16, [.rf (.d c8)], [], 0, zil⟩
def zh2 (x : T3) : Option ((Int)) := z2o x
theorem zt6 : FnOK Try.prog zhy zh2 :=
 fn_ok zs8 (h := .no) Try.func16 (z0d [] (by kernel_rfl) trivial) (by kernel_rfl) zrb (fun x => by kernel_rfl)
def zry : Env := ⟨[(entQ zbr zb2), (entQ z5z z5a), (entQ zfd zdp)], [(entP zdb zcn)], []⟩
theorem zq6 : EnvsOK Try.prog zry := ⟨z0c (z0e zfy) (z0c (z0e z6x) (z0c (z0e zi7) (z0j _))), z0l (z0t zj3) (z0g _), z0f _⟩
def zet : Shp := ⟨1, 2, [(0, .d (.int .i64))], [.var 75 (.ag [.pt 1 r0 [], .d c4, .d (.sl (.int .u8)), .d (.int .i64), .d .bool]), .var 71 (.ag [.wn 2 c1, .d c2, .d (.int .i64), .d c3, .d (.int .i64), .d .bool]), .row 86 c1]⟩
def zgd : XS := .one .ret zet.xe
theorem zox : zgd.OK := XS.one_ok (z0a zet)
def z6e (records : List (List Int)) (j : T2) (j2 : List Int) (j3 : Int) (j4 : Bool) (j5 : List T0) (j6 : Int) (j7 : T1) (j8 : Int) (j9 : Bool) (j10 : List (List Int)) : Option ((Int × T2 × (List Int) × Int × Bool × (List T0) × Int × T1 × Int × Bool × (List (List Int)))) :=
 winK j10 0 (List.length j10) fun w =>
 (z6s (w, j5, j6, j7, j8, j9) j j2 j3 j4).bind fun r =>
 bif r then
 bif Nat.beq (List.length j10) (List.length j10) then
 some (3, j, j2, j3, j4, j5, j6, j7, j8, j9, j10)
 else none
 else
 winK j10 0 (List.length j10) fun w2 =>
 (z4o (w2, j5, j6, j7, j8, j9)).bind fun r2 =>
 (zcw records (W64 (r2 * 256))).bind fun r3 =>
 bif neI r3.2 0 then
 bif Nat.beq (List.length j10) (List.length j10) then
 some (r3.2, j, j2, j3, j4, j5, j6, j7, j8, j9, j10)
 else none
 else
 z0i (List.length records) (
 bif Nat.beq (List.length j10) (List.length j10) then
 (z8s (W64 (1 - j.2.1)) 0 r3.1 (List.length records : Nat) j j2 j3 j4 j5 j6 j7 j8 j9 j10).bind fun r4 =>
 bif Nat.beq (List.length r4.2.2.2.2.2.2.2.2.2.2) (List.length r4.2.2.2.2.2.2.2.2.2.2) then
 some (r4.1, r4.2.1, r4.2.2.1, r4.2.2.2.1, r4.2.2.2.2.1, r4.2.2.2.2.2.1, r4.2.2.2.2.2.2.1, r4.2.2.2.2.2.2.2.1, r4.2.2.2.2.2.2.2.2.1, r4.2.2.2.2.2.2.2.2.2.1, r4.2.2.2.2.2.2.2.2.2.2)
 else none
 else none)
def zg5 : Sig := ⟨12, [.pt 0 r6 [], .d c5], [.var 75 (.ag [.pt 1 r0 [], .d c4, .d (.sl (.int .u8)), .d (.int .i64), .d .bool]), .var 71 (.ag [.wn 2 c1, .d c2, .d (.int .i64), .d c3, .d (.int .i64), .d .bool]), .row 86 c1], 2, zgd⟩
def zf3 (x : (List (List Int)) × T2 × (List Int) × Int × Bool × (List T0) × Int × T1 × Int × Bool × (List (List Int))) : Option ((Int × T2 × (List Int) × Int × Bool × (List T0) × Int × T1 × Int × Bool × (List (List Int)))) := z6e x.1 x.2.1 x.2.2.1 x.2.2.2.1 x.2.2.2.2.1 x.2.2.2.2.2.1 x.2.2.2.2.2.2.1 x.2.2.2.2.2.2.2.1 x.2.2.2.2.2.2.2.2.1 x.2.2.2.2.2.2.2.2.2.1 x.2.2.2.2.2.2.2.2.2.2
theorem zqp : FnOK Try.prog zg5 zf3 :=
 fn_ok zq6 (h := .no) Try.func12 (z0d [] (by kernel_rfl) trivial) (by kernel_rfl) zox (fun x => by kernel_rfl)
def z1ip : Env := ⟨[], [], []⟩
theorem zr9 : EnvsOK Try.prog z1ip := ⟨z0j _, z0g _, z0f _⟩
def z8x : Shp := ⟨49, 0, [(20, .d c11), (21, .d (.int .i64)), (22, .d (.int .i64)), (31, .pt 0 r12 [.fld 3]), (32, .pt 0 r12 [.fld 3, .fld 0]), (33, .d (.sl (.int .i64))), (34, .d (.int .i64)), (35, .d .bool)], [.var 44 (.d c13)]⟩
def z9a : Shp := ⟨49, 0, [(4, .d .bool)], []⟩
def z1i : XS := .or (.exit 2) z8x.xe (.one .ret z9a.xe)
theorem zev : z1i.OK := XS.or_ok (z0a z8x) (XS.one_ok (z0a z9a))
def z1k : Shp := ⟨49, 0, [(20, .d c11), (21, .d (.int .i64)), (22, .d (.int .i64)), (31, .pt 0 r12 [.fld 3]), (32, .pt 0 r12 [.fld 3, .fld 0]), (33, .d (.sl (.int .i64))), (34, .d (.int .i64)), (35, .d .bool), (38, .d c5), (39, .d (.int .i64)), (40, .d (.int .i64))], [.var 44 (.d c13)]⟩
abbrev z4z := (List T4) × Int × Int × (List Int) × Int × Bool × (List (List Int)) × Int × Int × T4
abbrev z9r := ((List T4) × Int × Int × (List Int) × Int × Bool × T4) ⊕ (Bool)
def z1j (t20 : List T4) (t21 : Int) (t22 : Int) (t33 : List Int) (t34 : Int) (t35 : Bool) (t38 : List (List Int)) (t39 : Int) (t40 : Int) (t31 : T4) : Option (z4z ⊕ z9r) :=
 bif ltI t40 t39 then
 (idxI t38 t40).bind fun x =>
 z0i (List.length x) (
 bif ltI 2000 (List.length x : Nat) then
 some (.inr (.inr false))
 else
 some (.inl (t20, t21, t22, t33, t34, t35, t38, t39, W64 (t40 + 1), t31)))
 else
 some (.inr (.inl (t20, t21, t22, t33, t34, t35, t31)))
def z0z (s : z4z) : Option (z4z ⊕ z9r) := z1j s.1 s.2.1 s.2.2.1 s.2.2.2.1 s.2.2.2.2.1 s.2.2.2.2.2.1 s.2.2.2.2.2.2.1 s.2.2.2.2.2.2.2.1 s.2.2.2.2.2.2.2.2.1 s.2.2.2.2.2.2.2.2.2
theorem zfo : SoundD Try.prog (.loop (subC (bodyC Try.f18) [1, 1, 0, 1, 0, 0, 1, 1, 0, 0, 1, 1, 1, 0, 0])) (loopD z1k.xe z1i (loopC z0z)) :=
 z0y (S := z1k.xe) (X := z1i) zr9 (h := .no) (z0d [] (by kernel_rfl) trivial) (z0a z1k) zev z0z (fun s => by kernel_rfl)
def zjd : Shp := ⟨49, 0, [], []⟩
def zjk : Shp := ⟨49, 0, [(4, .d .bool)], []⟩
def z8c : XS := .or (.exit 0) zjd.xe (.one .ret zjk.xe)
theorem zvh : z8c.OK := XS.or_ok (z0a zjd) (XS.one_ok (z0a zjk))
def z7t : Shp := ⟨49, 0, [(20, .d c11), (21, .d (.int .i64)), (22, .d (.int .i64))], []⟩
abbrev zec := (List T4) × Int × Int
abbrev zmq := (Unit) ⊕ (Bool)
def z8d (t20 : List T4) (t21 : Int) (t22 : Int) : Option (zec ⊕ zmq) :=
 bif ltI t22 t21 then
 (idxI t20 t22).bind fun x =>
 z0i (List.length x.2.1) (
 bif ltI 6 (List.length x.2.1 : Nat) then
 some (.inr (.inr false))
 else
 z0i (List.length x.2.2.2.1) (
 bif ltI 70 (List.length x.2.2.2.1 : Nat) then
 some (.inr (.inr false))
 else
 z0i (List.length x.2.1) (
 (loopC z0z (t20, t21, t22, x.2.2.2.1, (List.length x.2.2.2.1 : Nat), ltI 70 (List.length x.2.2.2.1 : Nat), x.2.1, (List.length x.2.1 : Nat), 0, x)).bind fun o =>
 Sum.elim (fun y =>
 some (.inl (y.1, y.2.1, W64 (y.2.2.1 + 1)))) (fun y2 =>
 some (.inr (.inr y2))) o)))
 else
 some (.inr (.inl ()))
def z7w (s : zec) : Option (zec ⊕ zmq) := z8d s.1 s.2.1 s.2.2
theorem zxq : SoundD Try.prog (.loop (subC (bodyC Try.f18) [1, 1, 0, 1, 0, 0])) (loopD z7t.xe z8c (loopC z7w)) :=
 z0y (S := z7t.xe) (X := z8c) zr9 (h := (.two .no (.two .no (.two (.two .no (.two .no (.two .no (.over (loopD z1k.xe z1i (loopC z0z)))))) .no)))) (z0d [.den (.loop (subC (bodyC Try.f18) [1, 1, 0, 1, 0, 0, 1, 1, 0, 0, 1, 1, 1, 0, 0])) (loopD z1k.xe z1i (loopC z0z))] (by kernel_rfl) ⟨zfo, trivial⟩) (z0a z7t) zvh z7w (fun s => by kernel_rfl)
def z11o : Shp := ⟨1, 0, [(0, .d .bool)], []⟩
def z17t : XS := .one .ret z11o.xe
theorem z1bn : z17t.OK := XS.one_ok (z0a z11o)
def zuv (sectors : Int) (script : List T4) : Option ((Bool)) :=
 bif ltI sectors 6 then
 some false
 else
 bif ltI 14 sectors then
 some false
 else
 z0i (List.length script) (
 bif ltI 30 (List.length script : Nat) then
 some false
 else
 z0i (List.length script) (
 (loopC z7w (script, (List.length script : Nat), 0)).bind fun o =>
 Sum.elim (fun y =>
 some true) (fun y2 =>
 some y2) o))
def z16o : Sig := ⟨18, [.d (.int .i64), .d c11], [], 0, z17t⟩
def z14h (x : Int × (List T4)) : Option ((Bool)) := zuv x.1 x.2
theorem z1ga : FnOK Try.prog z16o z14h :=
 fn_ok zr9 (h := (.two .no (.two .no (.two (.two .no (.over (loopD z7t.xe z8c (loopC z7w)))) .no)))) Try.func18 (z0d [.den (.loop (subC (bodyC Try.f18) [1, 1, 0, 1, 0, 0])) (loopD z7t.xe z8c (loopC z7w))] (by kernel_rfl) ⟨zxq, trivial⟩) (by kernel_rfl) z1bn (fun x => by kernel_rfl)
end Go.Proofs.Ytpfjfldagldgnaa