import Derived.Test.YtpfjfldagldgnaaTm21to25
import Derived.Test.YtpfjfldagldgnaaTm26to30
import Derived.Test.YtpfjfldagldgnaaTm31to34
import Derived.Test.YtpfjfldagldgnaaJrItoJrE
import Derived.Test.YtpfjfldagldgnaaProg
set_option maxRecDepth 100000
set_option linter.unusedVariables false
noncomputable section
namespace Go.Proofs.Ytpfjfldagldgnaa
open Go.Tm Go.Ab
abbrev T0 := Int × (List Int)
abbrev T1 := (List Int) × Int × Int
abbrev T2 := Int × Int × Int
abbrev T3 := (List (List Int)) × (List T0) × Int × T1 × Int × Bool
abbrev T4 := Int × (List (List Int)) × Int × T1
abbrev T5 := Bool × Int × T1
def r0 : Rt := .one (.st (.cons .leaf (.cons .leaf (.cons .leaf (.cons (.st (.cons .leaf (.cons .leaf (.one .leaf)))) (.cons .leaf (.one .leaf)))))))
def c1 : U := (.arr 256 (.int .u8))
def c2 : U := (.sl (.st (.cons (.int .i64) (.one (.arr 256 (.int .u8))))))
def c3 : U := (.st (.cons (.sl (.int .i64)) (.cons (.int .i64) (.one (.int .i64)))))
def c4 : U := (.st (.cons (.int .u64) (.cons (.int .i64) (.one (.int .i64)))))
def c5 : U := (.sl (.sl (.int .u8)))
def r6 : Rt := .one (.st (.cons .leaf (.cons (.st (.cons .leaf (.cons .leaf (.one .leaf)))) (.cons .leaf (.cons .leaf (.one .leaf))))))
def r7 : Rt := .one (.st (.cons .leaf (.cons .leaf (.one .leaf))))
def c8 : U := (.st (.cons (.sl (.arr 256 (.int .u8))) (.cons (.sl (.st (.cons (.int .i64) (.one (.arr 256 (.int .u8)))))) (.cons (.int .i64) (.cons (.st (.cons (.sl (.int .i64)) (.cons (.int .i64) (.one (.int .i64))))) (.cons (.int .i64) (.one .bool)))))))
def c9 : U := (.st (.cons (.int .i64) (.one (.arr 256 (.int .u8)))))
def r10 : Rt := .one (.st (.cons .leaf (.one (.arr 256 .leaf))))
def c11 : U := (.sl (.st (.cons (.int .i64) (.cons (.sl (.sl (.int .u8))) (.cons (.int .i64) (.one (.st (.cons (.sl (.int .i64)) (.cons (.int .i64) (.one (.int .i64)))))))))))
def r12 : Rt := .one (.st (.cons .leaf (.cons .leaf (.cons .leaf (.one (.st (.cons .leaf (.cons .leaf (.one .leaf)))))))))
def c13 : U := (.st (.cons (.int .i64) (.cons (.sl (.sl (.int .u8))) (.cons (.int .i64) (.one (.st (.cons (.sl (.int .i64)) (.cons (.int .i64) (.one (.int .i64))))))))))
def c14 : U := (.st (.cons .bool (.cons (.int .i64) (.one (.st (.cons (.sl (.int .i64)) (.cons (.int .i64) (.one (.int .i64)))))))))
def c16 : U := (.st (.cons (.sl .str) (.cons (.sl (.st (.cons (.int .i64) (.one .str)))) (.cons (.int .i64) (.cons (.st (.cons (.sl (.int .i64)) (.cons (.int .i64) (.one (.int .i64))))) (.cons (.int .i64) (.one .bool)))))))
def r17 : Rt := .one (.st (.cons .leaf (.one .leaf)))
def r19 : Rt := .one (.st (.cons (.st (.cons .leaf (.cons .leaf (.cons .leaf (.cons (.st (.cons .leaf (.cons .leaf (.one .leaf)))) (.cons .leaf (.one .leaf))))))) (.cons .leaf (.cons .leaf (.cons .leaf (.cons .leaf (.one .leaf)))))))
def r20 : Rt := .one (.st (.cons .leaf (.cons .leaf (.one (.st (.cons (.st (.cons .leaf (.cons .leaf (.cons .leaf (.cons (.st (.cons .leaf (.cons .leaf (.one .leaf)))) (.cons .leaf (.one .leaf))))))) (.cons .leaf (.cons .leaf (.cons .leaf (.cons .leaf (.one .leaf)))))))))))
def z1d4 : Env := ⟨[], [], []⟩
theorem z1a0 : EnvsOK Try.prog z1d4 := ⟨z0i _, z0e _, z0f _⟩
def zvp : Shp := ⟨1, 0, [(0, .tu [.c .nilp, .d (.int .i64)])], []⟩
def zvd : Shp := ⟨1, 0, [(0, .tu [.pt 0 r0 [], .d (.int .i64)])], [.var 71 (.ag [.wn 1 c1, .d c2, .d (.int .i64), .d c3, .d (.int .i64), .d .bool]), .row 86 c1]⟩
def zzr : XS := .or .ret zvp.xe (.one .ret zvd.xe)
theorem z18b : zzr.OK := XS.or_ok (z0a zvp) (XS.one_ok (z0a zvd))
def zfg (sectors : Int) : Option ((Int) ⊕ (Int × (List T0) × Int × T1 × Int × Bool × (List (List Int)))) :=
 bif ltI sectors 1 then
 some (.inl 1)
 else
 bif ltI 4096 sectors then
 some (.inl 1)
 else
 makeG sectors 256 (
 bif Nat.beq sectors.toNat (List.length (List.replicate sectors.toNat (List.replicate 256 (0 : Int)))) then
 some (.inr (0, [], (-1), ([], 0, 0), 0, false, List.replicate sectors.toNat (List.replicate 256 (0 : Int))))
 else none)
def zqn : Sig := ⟨9, [.d (.int .i64)], [], 0, zzr⟩
def zoj (x : Int) : Option ((Int) ⊕ (Int × (List T0) × Int × T1 × Int × Bool × (List (List Int)))) := zfg x
theorem zyq : FnOK Try.prog zqn zoj :=
 fn_ok z1a0 (h := .no) Try.func9 (z0d [] (by kernel_rfl) trivial) (by kernel_rfl) z18b (fun x => by kernel_rfl)
def z12x : Env := ⟨[], [], []⟩
theorem zz7 : EnvsOK Try.prog z12x := ⟨z0i _, z0e _, z0f _⟩
def zm8 : Shp := ⟨1, 0, [(0, .d (.int .i64))], []⟩
def zp1 : XS := .one .ret zm8.xe
theorem zx6 : zp1.OK := XS.one_ok (z0a zm8)
def ziw  : Option ((Int)) :=
 some 0
def zgf : Sig := ⟨30, [.c .nilp], [], 0, zp1⟩
def zfe (x : Unit) : Option ((Int)) := ziw 
theorem znv : FnOK Try.prog zgf zfe :=
 fn_ok zz7 (h := .no) Try.func30 (z0d [] (by kernel_rfl) trivial) (by kernel_rfl) zx6 (fun x => by kernel_rfl)
def z18e : Env := ⟨[(entQ zgf zfe)], [], []⟩
theorem z14k : EnvsOK Try.prog z18e := ⟨z0c (z0h znv) (z0i _), z0e _, z0f _⟩
def zpr : Shp := ⟨1, 0, [(0, .d (.int .i64))], []⟩
def ztp : XS := .one .ret zpr.xe
theorem z12v : ztp.OK := XS.one_ok (z0a zpr)
def z9f  : Option ((Int)) :=
 (ziw).bind fun r =>
 some (W64 (Int.tdiv (W64 (r - 2)) 2))
def z7k : Sig := ⟨31, [.c .nilp], [], 0, ztp⟩
def z6p (x : Unit) : Option ((Int)) := z9f 
theorem z8q : FnOK Try.prog z7k z6p :=
 fn_ok z14k (h := .no) Try.func31 (z0d [] (by kernel_rfl) trivial) (by kernel_rfl) z12v (fun x => by kernel_rfl)
def z14r : Env := ⟨[], [], []⟩
theorem z10t : EnvsOK Try.prog z14r := ⟨z0i _, z0e _, z0f _⟩
def zno : Shp := ⟨1, 0, [(0, .d .bool)], []⟩
def zpq : XS := .one .ret zno.xe
theorem zza : zpq.OK := XS.one_ok (z0a zno)
def zeu  : Option ((Bool)) :=
 some true
def zct : Sig := ⟨39, [.c .nilp], [], 0, zpq⟩
def zby (x : Unit) : Option ((Bool)) := zeu 
theorem zgj : FnOK Try.prog zct zby :=
 fn_ok z10t (h := .no) Try.func39 (z0d [] (by kernel_rfl) trivial) (by kernel_rfl) zza (fun x => by kernel_rfl)
def z14d : Env := ⟨[(entQ zct zby)], [], []⟩
theorem zzm : EnvsOK Try.prog z14d := ⟨z0c (z0h zgj) (z0i _), z0e _, z0f _⟩
def zo6 : Shp := ⟨1, 0, [(0, .d (.int .i64))], []⟩
def zpu : XS := .one .ret zo6.xe
theorem zz1 : zpu.OK := XS.one_ok (z0a zo6)
def zlf (i : Int) : Option ((Int)) :=
 (zeu).bind fun r =>
 bif r then
 some 6
 else
 bif ltI i 0 then
 some 2
 else
 none
def zh9 : Sig := ⟨51, [.c .nilp, .d (.int .i64)], [], 0, zpu⟩
def zgd (x : Int) : Option ((Int)) := zlf x
theorem zoe : FnOK Try.prog zh9 zgd :=
 fn_ok zzm (h := .no) Try.func51 (z0d [] (by kernel_rfl) trivial) (by kernel_rfl) zz1 (fun x => by kernel_rfl)
def z11u : Env := ⟨[(entQ zh9 zgd)], [], []⟩
theorem zz6 : EnvsOK Try.prog z11u := ⟨z0c (z0h zoe) (z0i _), z0e _, z0f _⟩
def zmc : Shp := ⟨1, 0, [(0, .tu [.d (.sl (.int .u8)), .d (.int .i64)])], []⟩
def zob : XS := .one .ret zmc.xe
theorem zx9 : zob.OK := XS.one_ok (z0a zmc)
def zk4 (i : Int) : Option (((List Int) × Int)) :=
 (zlf i).bind fun r =>
 bif neI r 0 then
 some ([], r)
 else
 none
def zog : Sig := ⟨28, [.c .nilp, .d (.int .i64)], [], 0, zob⟩
def zny (x : Int) : Option (((List Int) × Int)) := zk4 x
theorem z11o : FnOK Try.prog zog zny :=
 fn_ok zz6 (h := .no) Try.func28 (z0d [] (by kernel_rfl) trivial) (by kernel_rfl) zx9 (fun x => by kernel_rfl)
def z19x : Env := ⟨[], [], []⟩
theorem zs6 : EnvsOK Try.prog z19x := ⟨z0i _, z0e _, z0f _⟩
def zf2 : Shp := ⟨19, 0, [(3, .d (.int .u64))], []⟩
def z4x : XS := .one (.exit 0) zf2.xe
theorem zpk : z4x.OK := XS.one_ok (z0a zf2)
def z5d : Shp := ⟨19, 0, [(3, .d (.int .u64)), (6, .d (.sl (.int .u8))), (7, .d (.int .i64)), (8, .d (.int .i64))], []⟩
abbrev zbm := Int × (List Int) × Int × Int
abbrev zh2 := (Int)
def z4w (n : Int) (t6 : List Int) (t7 : Int) (t8 : Int) : Option (zbm ⊕ zh2) :=
 bif ltI t8 t7 then
 (idxI t6 t8).bind fun x =>
 some (.inl (bitI .or .u64 (shI .shl .u64 n 8) (WU64 (x)), t6, t7, W64 (t8 + 1)))
 else
 some (.inr n)
def z3o (s : zbm) : Option (zbm ⊕ zh2) := z4w s.1 s.2.1 s.2.2.1 s.2.2.2
theorem zq5 : SoundD Try.prog (.loop (subC (bodyC Try.f52) [1, 1, 0, 1, 0, 0])) (loopD z5d.xe z4x (loopC z3o)) :=
 z1c (S := z5d.xe) (X := z4x) zs6 (h := .no) (z0d [] (by kernel_rfl) trivial) (z0a z5d) zpk z3o (fun s => by kernel_rfl)
def zrf : Shp := ⟨1, 0, [(0, .d (.int .u64))], []⟩
def zv6 : XS := .one .ret zrf.xe
theorem z14p : zv6.OK := XS.one_ok (z0a zrf)
def za9 (b : List Int) : Option ((Int)) :=
 z0j (List.length b) (
 (loopC z3o (0, b, (List.length b : Nat), 0)).bind fun o =>
 some o)
def zwx : Sig := ⟨52, [.d (.sl (.int .u8))], [], 0, zv6⟩
def zth (x : (List Int)) : Option ((Int)) := za9 x
theorem z18k : FnOK Try.prog zwx zth :=
 fn_ok zs6 (h := (.two .no (.two .no (.two (.two .no (.over (loopD z5d.xe z4x (loopC z3o)))) .no)))) Try.func52 (z0d [.den (.loop (subC (bodyC Try.f52) [1, 1, 0, 1, 0, 0])) (loopD z5d.xe z4x (loopC z3o))] (by kernel_rfl) ⟨zq5, trivial⟩) (by kernel_rfl) z14p (fun x => by kernel_rfl)
def z1co : Env := ⟨[(entQ zwx zth)], [], []⟩
theorem z17y : EnvsOK Try.prog z1co := ⟨z0c (z0h z18k) (z0i _), z0e _, z0f _⟩
def ztf : Shp := ⟨1, 0, [(0, .d c4)], []⟩
def zxw : XS := .one .ret ztf.xe
theorem z17a : zxw.OK := XS.one_ok (z0a ztf)
def zgx (b : List Int) (room : Int) : Option ((T2)) :=
 bif subOk 8 16 (List.length b) then
 (za9 (subL b 8 16)).bind fun r =>
 bif subOk 16 24 (List.length b) then
 (za9 (subL b 16 24)).bind fun r2 =>
 bif subOk 24 32 (List.length b) then
 (za9 (subL b 24 32)).bind fun r3 =>
 bif subOk 0 8 (List.length b) then
 bif !(eqS (subL b 0 8) ([119, 97, 114, 100, 115, 104, 105, 112] : List Int)) then
 some (0, 0, 0)
 else
 bif subOk 32 40 (List.length b) then
 bif !(eqS (subL b 32 40) ([119, 97, 114, 100, 115, 104, 105, 112] : List Int)) then
 some (0, 0, 0)
 else
 bif subOk 16 32 (List.length b) then
 bif subOk 40 56 (List.length b) then
 bif !(eqS (subL b 16 32) (subL b 40 56)) then
 some (0, 0, 0)
 else
 bif subOk 56 64 (List.length b) then
 (za9 (subL b 56 64)).bind fun r4 =>
 bif neI r4 r then
 some (0, 0, 0)
 else
 bif ltI r 1 then
 some (0, 0, 0)
 else
 bif ltI 4611686018427387904 r then
 some (0, 0, 0)
 else
 bif ltI 1 r2 then
 some (0, 0, 0)
 else
 bif ltI (WU64 (room)) r3 then
 some (0, 0, 0)
 else
 some (r, W64 (r2), W64 (r3))
 else none
 else none
 else none
 else none
 else none
 else none
 else none
 else none
def zp4 : Sig := ⟨32, [.d (.sl (.int .u8)), .d (.int .i64)], [], 0, zxw⟩
def zmt (x : (List Int) × Int) : Option ((T2)) := zgx x.1 x.2
theorem zwu : FnOK Try.prog zp4 zmt :=
 fn_ok z17y (h := .no) Try.func32 (z0d [] (by kernel_rfl) trivial) (by kernel_rfl) z17a (fun x => by kernel_rfl)
def z1fq : Env := ⟨[], [], []⟩
theorem zyk : EnvsOK Try.prog z1fq := ⟨z0i _, z0e _, z0f _⟩
def zbq : Shp := ⟨27, 0, [(0, .d (.int .u64)), (3, .wn 0 (.int .u8)), (4, .d (.int .i64)), (5, .d (.int .u8)), (21, .d .bool)], [.row 5 (.int .u8)]⟩
def z8k : XS := .one .normal zbq.xe
theorem zkb : z8k.OK := XS.one_ok (z0a zbq)
def zhl : Shp := ⟨27, 0, [(3, .wn 0 (.int .u8))], [.row 5 (.int .u8)]⟩
def z7a : XS := .one (.exit 0) zhl.xe
theorem zt0 : z7a.OK := XS.one_ok (z0a zhl)
def z7g : Shp := ⟨27, 0, [(0, .d (.int .u64)), (3, .wn 0 (.int .u8)), (4, .d (.int .i64))], [.row 5 (.int .u8)]⟩
abbrev zd0 := Int × Int × (List Int)
abbrev zkw := ((List Int))
def z7b (n : Int) (shift : Int) (b : List Int) : Option (zd0 ⊕ zkw) :=
 bif leI 0 shift then
 bif ltI shift 0 then none else
 (show Option ((Int × Int × Int × Bool × (List Int))) from
 bif neI (WU8 (shI .shr .u64 n shift)) 0 then
 bif Nat.beq (List.length b) (List.length b) then
 some (n, shift, WU8 (shI .shr .u64 n shift), true, b)
 else none
 else
 z0j (List.length b) (
 bif Nat.beq (List.length b) (List.length b) then
 some (n, shift, WU8 (shI .shr .u64 n shift), ltI 0 (List.length b : Nat), b)
 else none)).bind fun j =>
 bif j.2.2.2.1 then
 bif Nat.beq (List.length j.2.2.2.2) (List.length j.2.2.2.2) then
 appG (List.length j.2.2.2.2) (List.length ([j.2.2.1] : List Int)) 1 fun _ =>
 bif Nat.beq (List.length (j.2.2.2.2 ++ ([j.2.2.1] : List Int))) (List.length (j.2.2.2.2 ++ ([j.2.2.1] : List Int))) then
 some (.inl (j.1, W64 (j.2.1 - 8), j.2.2.2.2 ++ ([j.2.2.1] : List Int)))
 else none
 else none
 else
 bif Nat.beq (List.length j.2.2.2.2) (List.length j.2.2.2.2) then
 some (.inl (j.1, W64 (j.2.1 - 8), j.2.2.2.2))
 else none
 else
 bif Nat.beq (List.length b) (List.length b) then
 some (.inr b)
 else none
def z4p (s : zd0) : Option (zd0 ⊕ zkw) := z7b s.1 s.2.1 s.2.2
theorem zu3 : SoundD Try.prog (.loop (subC (bodyC Try.f82) [1, 1, 0, 1, 0, 0])) (loopD z7g.xe z7a (loopC z4p)) :=
 z1c (S := z7g.xe) (X := z7a) zyk (h := (.two .no (.two (.two .no (.join (fun _ => z8k) .no .no)) .no))) (z0d [.xs (fun _ => z8k)] (by kernel_rfl) ⟨(z4b zkb), trivial⟩) (z0a z7g) zt0 z4p (fun s => by kernel_rfl)
def zyj : Shp := ⟨1, 0, [(0, .wn 0 (.int .u8))], [.row 5 (.int .u8)]⟩
def z13w : XS := .one .ret zyj.xe
theorem z1a8 : z13w.OK := XS.one_ok (z0a zyj)
def zr7 (n : Int) : Option (((List Int))) :=
 bif Nat.beq (List.length ([] : List Int)) (List.length ([] : List Int)) then
 (loopC z4p (n, 56, ([] : List Int))).bind fun o =>
 bif Nat.beq (List.length o) (List.length o) then
 some o
 else none
 else none
def z13u : Sig := ⟨82, [.d (.int .u64)], [], 0, z13w⟩
def z10w (x : Int) : Option (((List Int))) := zr7 x
theorem z1dn : FnOK Try.prog z13u z10w :=
 fn_ok zyk (h := (.two .no (.two (.reg [0] []) (.two (.two .no (.over (loopD z7g.xe z7a (loopC z4p)))) .no)))) Try.func82 (z0d [.den (.loop (subC (bodyC Try.f82) [1, 1, 0, 1, 0, 0])) (loopD z7g.xe z7a (loopC z4p))] (by kernel_rfl) ⟨zu3, trivial⟩) (by kernel_rfl) z1a8 (fun x => by kernel_rfl)
def z18a : Env := ⟨[], [(entP z13u z10w)], []⟩
theorem z14n : EnvsOK Try.prog z18a := ⟨z0i _, z0k (z0o z1dn) (z0e _), z0f _⟩
def zq0 : Shp := ⟨1, 0, [(0, .wn 0 (.int .u8))], [.row 5 (.int .u8)]⟩
def ztk : XS := .one .ret zq0.xe
theorem z12c : ztk.OK := XS.one_ok (z0a zq0)
def zba (n : Int) : Option (((List Int))) :=
 (zr7 n).bind fun r =>
 z0j (List.length r) (
 makeG (W64 (8 - (List.length r : Nat))) 1 (
 bif Nat.beq ((W64 (8 - (List.length r : Nat))).toNat) (List.length (List.replicate ((W64 (8 - (List.length r : Nat))).toNat) (0 : Int))) then
 winK r 0 (List.length r) fun w =>
 appG (List.length (List.replicate ((W64 (8 - (List.length r : Nat))).toNat) (0 : Int))) (List.length w) 1 fun _ =>
 bif Nat.beq (List.length ((List.replicate ((W64 (8 - (List.length r : Nat))).toNat) (0 : Int)) ++ w)) (List.length ((List.replicate ((W64 (8 - (List.length r : Nat))).toNat) (0 : Int)) ++ w)) then
 some ((List.replicate ((W64 (8 - (List.length r : Nat))).toNat) (0 : Int)) ++ w)
 else none
 else none))
def zld : Sig := ⟨73, [.d (.int .u64)], [], 0, ztk⟩
def zjo (x : Int) : Option (((List Int))) := zba x
theorem zrm : FnOK Try.prog zld zjo :=
 fn_ok z14n (h := .no) Try.func73 (z0d [] (by kernel_rfl) trivial) (by kernel_rfl) z12c (fun x => by kernel_rfl)
def z1ck : Env := ⟨[], [(entP z12j zze)], []⟩
theorem zli : EnvsOK Try.prog z1ck := ⟨z0i _, z0k (z0o z19k) (z0e _), z0f _⟩
def zg0 : Shp := ⟨36, 0, [(0, .d c5), (3, .d (.int .i64))], []⟩
def z5y : XS := .one (.exit 0) zg0.xe
theorem zqq : z5y.OK := XS.one_ok (z0a zg0)
def z5z : Shp := ⟨36, 0, [(0, .d c5), (3, .d (.int .i64)), (9, .d c5), (10, .d (.int .i64)), (11, .d (.int .i64))], []⟩
abbrev zbx := (List (List Int)) × Int × (List (List Int)) × Int × Int
abbrev zi0 := ((List (List Int)) × Int)
def z6g (slices : List (List Int)) (size : Int) (t9 : List (List Int)) (t10 : Int) (t11 : Int) : Option (zbx ⊕ zi0) :=
 bif ltI t11 t10 then
 (idxI t9 t11).bind fun x =>
 z0j (List.length x) (
 bif ltI (W64 (size + (List.length x : Nat))) 0 then
 none
 else
 some (.inl (slices, W64 (size + (List.length x : Nat)), t9, t10, W64 (t11 + 1))))
 else
 some (.inr (slices, size))
def z2m (s : zbx) : Option (zbx ⊕ zi0) := z6g s.1 s.2.1 s.2.2.1 s.2.2.2.1 s.2.2.2.2
theorem zr9 : SoundD Try.prog (.loop (subC (bodyC Try.f38) [1, 1, 0, 1, 0, 0])) (loopD z5z.xe z5y (loopC z2m)) :=
 z1c (S := z5z.xe) (X := z5y) zli (h := .no) (z0d [] (by kernel_rfl) trivial) (z0a z5z) zqq z2m (fun s => by kernel_rfl)
def zcw : Shp := ⟨36, 0, [(6, .wn 0 (.int .u8))], [.row 5 (.int .u8)]⟩
def z4e : XS := .one (.exit 2) zcw.xe
theorem zmu : z4e.OK := XS.one_ok (z0a zcw)
def z4f : Shp := ⟨36, 0, [(6, .wn 0 (.int .u8)), (25, .d c5), (26, .d (.int .i64)), (27, .d (.int .i64))], [.row 5 (.int .u8)]⟩
abbrev za0 := (List (List Int)) × Int × Int × (List Int)
abbrev zei := ((List Int))
def z4d (t25 : List (List Int)) (t26 : Int) (t27 : Int) (newslice : List Int) : Option (za0 ⊕ zei) :=
 bif ltI t27 t26 then
 (idxI t25 t27).bind fun x =>
 bif Nat.beq (List.length newslice) (List.length newslice) then
 appG (List.length newslice) (List.length x) 1 fun _ =>
 bif Nat.beq (List.length (newslice ++ x)) (List.length (newslice ++ x)) then
 some (.inl (t25, t26, W64 (t27 + 1), newslice ++ x))
 else none
 else none
 else
 bif Nat.beq (List.length newslice) (List.length newslice) then
 some (.inr newslice)
 else none
def z1k (s : za0) : Option (za0 ⊕ zei) := z4d s.1 s.2.1 s.2.2.1 s.2.2.2
theorem zo8 : SoundD Try.prog (.loop (subC (bodyC Try.f38) [1, 1, 1, 1, 0, 1, 0, 0])) (loopD z4f.xe z4e (loopC z1k)) :=
 z1c (S := z4f.xe) (X := z4e) zli (h := .no) (z0d [] (by kernel_rfl) trivial) (z0a z4f) zmu z1k (fun s => by kernel_rfl)
def ztb : Shp := ⟨1, 0, [(0, .wn 0 (.int .u8))], [.row 5 (.int .u8)]⟩
def zxu : XS := .one .ret ztb.xe
theorem z16v : zxu.OK := XS.one_ok (z0a ztb)
def zh0 (slices : List (List Int)) : Option (((List Int))) :=
 z0j (List.length slices) (
 (loopC z2m (slices, 0, slices, (List.length slices : Nat), 0)).bind fun o =>
 (z12q o.2).bind fun r =>
 z0j (List.length o.1) (
 bif Nat.beq (List.length r) (List.length r) then
 (loopC z1k (o.1, (List.length o.1 : Nat), 0, r)).bind fun o2 =>
 bif Nat.beq (List.length o2) (List.length o2) then
 some o2
 else none
 else none))
def zyl : Sig := ⟨38, [.d c5], [], 0, zxu⟩
def zvk (x : (List (List Int))) : Option (((List Int))) := zh0 x
theorem z1ab : FnOK Try.prog zyl zvk :=
 fn_ok zli (h := (.two .no (.two .no (.two (.two .no (.over (loopD z5z.xe z5y (loopC z2m)))) (.two .no (.two (.two .no (.over (loopD z4f.xe z4e (loopC z1k)))) .no)))))) Try.func38 (z0d [.den (.loop (subC (bodyC Try.f38) [1, 1, 0, 1, 0, 0])) (loopD z5z.xe z5y (loopC z2m)), .den (.loop (subC (bodyC Try.f38) [1, 1, 1, 1, 0, 1, 0, 0])) (loopD z4f.xe z4e (loopC z1k))] (by kernel_rfl) ⟨zr9, zo8, trivial⟩) (by kernel_rfl) z16v (fun x => by kernel_rfl)
def zp8 : Env := ⟨[], [(entP zld zjo), (entP zyl zvk)], [(entD zld zjo)]⟩
theorem zn5 : EnvsOK Try.prog zp8 := ⟨z0i _, z0k (z0o zrm) (z0k (z0o z1ab) (z0e _)), z1ma (z1qh zrm) (z0f _)⟩
def zca : Shp := ⟨1, 0, [(0, .d (.sl (.int .u8)))], []⟩
def zdx : XS := .one .ret zca.xe
theorem zmm : zdx.OK := XS.one_ok (z0a zca)
def z1o (t : T2) : Option (((List Int))) :=
 (zba t.1).bind fun r =>
 (zba (WU64 (t.2.1))).bind fun r2 =>
 (zba (WU64 (t.2.2))).bind fun r3 =>
 bif Nat.beq (List.length r2) (List.length r2) then
 winK r3 0 (List.length r3) fun w =>
 appG (List.length r2) (List.length w) 1 fun _ =>
 winK ([119, 97, 114, 100, 115, 104, 105, 112] : List Int) 0 (List.length ([119, 97, 114, 100, 115, 104, 105, 112] : List Int)) fun w2 =>
 winK r 0 (List.length r) fun w3 =>
 winK (r2 ++ w) 0 (List.length (r2 ++ w)) fun w4 =>
 winK ([119, 97, 114, 100, 115, 104, 105, 112] : List Int) 0 (List.length ([119, 97, 114, 100, 115, 104, 105, 112] : List Int)) fun w5 =>
 winK (r2 ++ w) 0 (List.length (r2 ++ w)) fun w6 =>
 winK r 0 (List.length r) fun w7 =>
 (zh0 ([w2, w3, w4, w5, w6, w7] : List (List Int))).bind fun r4 =>
 bif Nat.beq (List.length r4) (List.length r4) then
 appG (List.length r4) 192 1 fun _ =>
 winK (r4 ++ (List.replicate 192 (0 : Int))) 0 (List.length (r4 ++ (List.replicate 192 (0 : Int)))) fun w8 =>
 some w8
 else none
 else none
def z3t : Sig := ⟨54, [.d c4], [], 0, zdx⟩
def z3b (x : T2) : Option (((List Int))) := z1o x
theorem z5h : FnOK Try.prog z3t z3b :=
 fn_ok zn5 (h := (.two .no (.two (.reg [] [10, 0, 0, 2]) (.two (.reg [0, 4, 2000008] []) .no)))) Try.func54 (z0d [] (by kernel_rfl) trivial) (by kernel_rfl) zmm (fun x => by kernel_rfl)
def z11k : Env := ⟨[(entQ zh9 zgd)], [], []⟩
theorem zxl : EnvsOK Try.prog z11k := ⟨z0c (z0h zoe) (z0i _), z0e _, z0f _⟩
def zko : Shp := ⟨1, 0, [(0, .d (.int .i64))], []⟩
def znt : XS := .one .ret zko.xe
theorem zvb : znt.OK := XS.one_ok (z0a zko)
def zcs (i : Int) (b : List Int) : Option ((Int)) :=
 (zlf i).bind fun r =>
 bif neI r 0 then
 some r
 else
 z0j (List.length b) (
 bif neI (List.length b : Nat) 256 then
 some 1
 else
 bif Nat.ble 256 (List.length (List.replicate 256 (0 : Int))) then
 none
 else none)
def zb8 : Sig := ⟨53, [.c .nilp, .d (.int .i64), .d (.sl (.int .u8))], [], 0, znt⟩
def zaj (x : Int × (List Int)) : Option ((Int)) := zcs x.1 x.2
theorem ze5 : FnOK Try.prog zb8 zaj :=
 fn_ok zxl (h := .no) Try.func53 (z0d [] (by kernel_rfl) trivial) (by kernel_rfl) zvb (fun x => by kernel_rfl)
def zxr : Env := ⟨[(entQ zct zby)], [], []⟩
theorem zum : EnvsOK Try.prog zxr := ⟨z0c (z0h zgj) (z0i _), z0e _, z0f _⟩
def zhj : Shp := ⟨1, 0, [(0, .d (.int .i64))], []⟩
def zkz : XS := .one .ret zhj.xe
theorem zsv : zkz.OK := XS.one_ok (z0a zhj)
def zbb  : Option ((Int)) :=
 (zeu).bind fun r =>
 bif r then
 some 6
 else
 none
def za1 : Sig := ⟨55, [.c .nilp], [], 0, zkz⟩
def z9r (x : Unit) : Option ((Int)) := zbb 
theorem zcr : FnOK Try.prog za1 z9r :=
 fn_ok zum (h := .no) Try.func55 (z0d [] (by kernel_rfl) trivial) (by kernel_rfl) zsv (fun x => by kernel_rfl)
def zwv : Env := ⟨[(entQ z3t z3b), (entQ zb8 zaj), (entQ za1 z9r)], [], []⟩
theorem zsw : EnvsOK Try.prog zwv := ⟨z0c (z0h z5h) (z0c (z0h ze5) (z0c (z0h zcr) (z0i _))), z0e _, z0f _⟩
def zen : Shp := ⟨34, 1, [(0, .pt 0 r6 []), (3, .pt 1 r7 []), (5, .d (.int .i64))], [.var 75 (.ag [.c .nilp, .d c4, .d (.sl (.int .u8)), .d (.int .i64), .d .bool]), .var 73 (.d c4)]⟩
def zak : XS := .one .normal zen.xe
theorem zol : zak.OK := XS.one_ok (z0a zen)
def zgz : Shp := ⟨1, 1, [(0, .d (.int .i64))], [.var 75 (.ag [.c .nilp, .d c4, .d (.sl (.int .u8)), .d (.int .i64), .d .bool])]⟩
def zjj : XS := .one .ret zgz.xe
theorem zrl : zjj.OK := XS.one_ok (z0a zgz)
def zmn (t : T2) (j : T2) (j2 : List Int) (j3 : Int) (j4 : Bool) : Option ((Int × T2 × (List Int) × Int × Bool)) :=
 (z1o t).bind fun r =>
 (zcs (W64 (Int.tmod t.1 2)) r).bind fun r2 =>
 (show Option ((Int × T2 × (List Int) × Int × Bool × T2)) from
 bif eqI r2 0 then
 (zbb).bind fun r3 =>
 some (r3, j, j2, j3, j4, t)
 else
 some (r2, j, j2, j3, j4, t)).bind fun j5 =>
 bif neI j5.1 0 then
 some (j5.1, j5.2.1, j5.2.2.1, j5.2.2.2.1, true)
 else
 some (0, j5.2.2.2.2.2, j5.2.2.1, j5.2.2.2.1, j5.2.2.2.2.1)
def zj4 : Sig := ⟨33, [.pt 0 r6 [], .d c4], [.var 75 (.ag [.c .nilp, .d c4, .d (.sl (.int .u8)), .d (.int .i64), .d .bool])], 1, zjj⟩
def zi1 (x : T2 × T2 × (List Int) × Int × Bool) : Option ((Int × T2 × (List Int) × Int × Bool)) := zmn x.1 x.2.1 x.2.2.1 x.2.2.2.1 x.2.2.2.2
theorem ztw : FnOK Try.prog zj4 zi1 :=
 fn_ok zsw (h := (.two .no (.two .no (.join (fun _ => zak) .no .no)))) Try.func33 (z0d [.xs (fun _ => zak)] (by kernel_rfl) ⟨(z4b zol), trivial⟩) (by kernel_rfl) zrl (fun x => by kernel_rfl)
def z12l : Env := ⟨[(entQ z7k z6p)], [], []⟩
theorem zzh : EnvsOK Try.prog z12l := ⟨z0c (z0h z8q) (z0i _), z0e _, z0f _⟩
def zmf : Shp := ⟨1, 0, [(0, .d (.int .i64))], []⟩
def zov : XS := .one .ret zmf.xe
theorem zxo : zov.OK := XS.one_ok (z0a zmf)
def zj1 (j : T2) (j2 : List Int) (j3 : Int) (j4 : Bool) (side : Int) (i : Int) : Option ((Int)) :=
 (z9f).bind fun r =>
 some (W64 ((W64 (2 + (W64 (side * r)))) + i))
def zgh : Sig := ⟨34, [.rf (.ag [.c .nilp, .d c4, .d (.sl (.int .u8)), .d (.int .i64), .d .bool]), .d (.int .i64), .d (.int .i64)], [], 0, zov⟩
def zfh (x : T2 × (List Int) × Int × Bool × Int × Int) : Option ((Int)) := zj1 x.1 x.2.1 x.2.2.1 x.2.2.2.1 x.2.2.2.2.1 x.2.2.2.2.2
theorem znz : FnOK Try.prog zgh zfh :=
 fn_ok zzh (h := .no) Try.func34 (z0d [] (by kernel_rfl) trivial) (by kernel_rfl) zxo (fun x => by kernel_rfl)
def zw8 : Env := ⟨[(entQ z3t z3b), (entQ zb8 zaj), (entQ za1 z9r)], [], []⟩
theorem zt3 : EnvsOK Try.prog zw8 := ⟨z0c (z0h z5h) (z0c (z0h ze5) (z0c (z0h zcr) (z0i _))), z0e _, z0f _⟩
def zeq : Shp := ⟨34, 1, [(0, .pt 0 r6 []), (3, .pt 1 r7 []), (5, .d (.int .i64))], [.var 75 (.ag [.c .nilp, .d c4, .wn 2 (.int .u8), .d (.int .i64), .d .bool]), .var 73 (.d c4), .row 5 (.int .u8)]⟩
def zao : XS := .one .normal zeq.xe
theorem zof : zao.OK := XS.one_ok (z0a zeq)
def zh3 : Shp := ⟨1, 1, [(0, .d (.int .i64))], [.var 75 (.ag [.c .nilp, .d c4, .d (.sl (.int .u8)), .d (.int .i64), .d .bool])]⟩
def zjn : XS := .one .ret zh3.xe
theorem zrw : zjn.OK := XS.one_ok (z0a zh3)
def zlw (t : T2) (j : T2) (j2 : Int) (j3 : Bool) (j4 : List Int) : Option ((Int × T2 × (List Int) × Int × Bool)) :=
 (z1o t).bind fun r =>
 (zcs (W64 (Int.tmod t.1 2)) r).bind fun r2 =>
 (show Option ((Int × T2 × Int × Bool × T2 × (List Int))) from
 bif eqI r2 0 then
 (zbb).bind fun r3 =>
 bif Nat.beq (List.length j4) (List.length j4) then
 some (r3, j, j2, j3, t, j4)
 else none
 else
 bif Nat.beq (List.length j4) (List.length j4) then
 some (r2, j, j2, j3, t, j4)
 else none).bind fun j5 =>
 bif neI j5.1 0 then
 winK j5.2.2.2.2.2 0 (List.length j5.2.2.2.2.2) fun w =>
 some (j5.1, j5.2.1, w, j5.2.2.1, true)
 else
 winK j5.2.2.2.2.2 0 (List.length j5.2.2.2.2.2) fun w2 =>
 some (0, j5.2.2.2.2.1, w2, j5.2.2.1, j5.2.2.2.1)
def zir : Sig := ⟨33, [.pt 0 r6 [], .d c4], [.var 75 (.ag [.c .nilp, .d c4, .wn 1 (.int .u8), .d (.int .i64), .d .bool]), .row 5 (.int .u8)], 1, zjn⟩
def zhu (x : T2 × T2 × Int × Bool × (List Int)) : Option ((Int × T2 × (List Int) × Int × Bool)) := zlw x.1 x.2.1 x.2.2.1 x.2.2.2.1 x.2.2.2.2
theorem ztx : FnOK Try.prog zir zhu :=
 fn_ok zt3 (h := (.two .no (.two .no (.join (fun _ => zao) .no .no)))) Try.func33 (z0d [.xs (fun _ => zao)] (by kernel_rfl) ⟨(z4b zof), trivial⟩) (by kernel_rfl) zrw (fun x => by kernel_rfl)
def z1mh : Env := ⟨[], [], []⟩
theorem z19f : EnvsOK Try.prog z1mh := ⟨z0i _, z0e _, z0f _⟩
def znu : Shp := ⟨27, 0, [(3, .d (.int .u32)), (4, .d (.int .u32))], []⟩
def za5 : XS := .one (.exit 0) znu.xe
theorem zzj : za5.OK := XS.one_ok (z0a znu)
def za4 : Shp := ⟨27, 0, [(3, .d (.int .u32)), (4, .d (.int .u32)), (7, .d (.sl (.int .u8))), (8, .d (.int .i64)), (9, .d (.int .i64))], []⟩
abbrev zhc := Int × Int × (List Int) × Int × Int
abbrev zps := (Int × Int)
def za3 (low : Int) (high : Int) (t7 : List Int) (t8 : Int) (t9 : Int) : Option (zhc ⊕ zps) :=
 bif ltI t9 t8 then
 (idxI t7 t9).bind fun x =>
 some (.inl ((Int.tmod ((WU32 (low + (WU32 (x))))) 65521, Int.tmod ((WU32 (high + (Int.tmod ((WU32 (low + (WU32 (x))))) 65521)))) 65521, t7, t8, W64 (t9 + 1))))
 else
 some (.inr (low, high))
def z7r (s : zhc) : Option (zhc ⊕ zps) := za3 s.1 s.2.1 s.2.2.1 s.2.2.2.1 s.2.2.2.2
theorem z11r : SoundD Try.prog (.loop (subC (bodyC Try.f76) [1, 1, 0, 1, 0, 0])) (loopD za4.xe za5 (loopC z7r)) :=
 z1c (S := za4.xe) (X := za5) z19f (h := .no) (z0d [] (by kernel_rfl) trivial) (z0a za4) zzj z7r (fun s => by kernel_rfl)
def z18w : Shp := ⟨1, 0, [(0, .d (.int .u32))], []⟩
def z1e2 : XS := .one .ret z18w.xe
theorem z1ib : z1e2.OK := XS.one_ok (z0a z18w)
def z11t (b : List Int) : Option ((Int)) :=
 z0j (List.length b) (
 (loopC z7r (1, 0, b, (List.length b : Nat), 0)).bind fun o =>
 some (bitI .or .u32 (shI .shl .u32 o.2 16) o.1))
def z15h : Sig := ⟨76, [.d (.sl (.int .u8))], [], 0, z1e2⟩
def z13j (x : (List Int)) : Option ((Int)) := z11t x
theorem z1b7 : FnOK Try.prog z15h z13j :=
 fn_ok z19f (h := (.two .no (.two .no (.two (.two .no (.over (loopD za4.xe za5 (loopC z7r)))) .no)))) Try.func76 (z0d [.den (.loop (subC (bodyC Try.f76) [1, 1, 0, 1, 0, 0])) (loopD za4.xe za5 (loopC z7r))] (by kernel_rfl) ⟨z11r, trivial⟩) (by kernel_rfl) z1ib (fun x => by kernel_rfl)
def z1la : Env := ⟨[(entQ z15h z13j)], [], []⟩
theorem z1gi : EnvsOK Try.prog z1la := ⟨z0c (z0h z1b7) (z0i _), z0e _, z0f _⟩
def z16b : Shp := ⟨1, 0, [(0, .d (.sl (.int .u8)))], []⟩
def z1bx : XS := .one .ret z16b.xe
theorem z1fl : z1bx.OK := XS.one_ok (z0a z16b)
def z12t (b : List Int) : Option (((List Int))) :=
 (z11t b).bind fun r =>
 appG (List.length ([] : List Int)) (List.length b) 1 fun _ =>
 bif Nat.beq (List.length b) (List.length b) then
 appG (List.length b) (List.length ([WU8 (shI .shr .u32 r 24), WU8 (shI .shr .u32 r 16), WU8 (shI .shr .u32 r 8), WU8 (r)] : List Int)) 1 fun _ =>
 winK (b ++ ([WU8 (shI .shr .u32 r 24), WU8 (shI .shr .u32 r 16), WU8 (shI .shr .u32 r 8), WU8 (r)] : List Int)) 0 (List.length (b ++ ([WU8 (shI .shr .u32 r 24), WU8 (shI .shr .u32 r 16), WU8 (shI .shr .u32 r 8), WU8 (r)] : List Int))) fun w =>
 some w
 else none
def z1be : Sig := ⟨59, [.d (.sl (.int .u8))], [], 0, z1bx⟩
def z18n (x : (List Int)) : Option (((List Int))) := z12t x
theorem z1iz : FnOK Try.prog z1be z18n :=
 fn_ok z1gi (h := (.two .no (.two .no (.two (.reg [2] []) .no)))) Try.func59 (z0d [] (by kernel_rfl) trivial) (by kernel_rfl) z1fl (fun x => by kernel_rfl)
def z1g5 : Env := ⟨[(entQ z1be z18n)], [], []⟩
theorem z1du : EnvsOK Try.prog z1g5 := ⟨z0c (z0h z1iz) (z0i _), z0e _, z0f _⟩
def z10a : Shp := ⟨1, 0, [(0, .tu [.wn 0 (.int .u8), .d (.int .i64)])], [.row 5 (.int .u8)]⟩
def z16m : XS := .one .ret z10a.xe
theorem z1cs : z16m.OK := XS.one_ok (z0a z10a)
def zty (b : List Int) : Option ((Int × (List Int))) :=
 z0j (List.length b) (
 bif ltI (W64 ((List.length b : Nat) - 4)) 0 then
 bif Nat.beq 0 (List.length ([] : List Int)) then
 some (8, ([] : List Int))
 else none
 else
 bif subOk 0 (W64 ((List.length b : Nat) - 4)) (List.length b) then
 (z12t (subL b 0 (W64 ((List.length b : Nat) - 4)))).bind fun r =>
 bif !(eqS r b) then
 bif Nat.beq 0 (List.length ([] : List Int)) then
 some (9, ([] : List Int))
 else none
 else
 bif subOk 0 (W64 ((List.length b : Nat) - 4)) (List.length b) then
 appG (List.length ([] : List Int)) (List.length (subL b 0 (W64 ((List.length b : Nat) - 4)))) 1 fun _ =>
 bif Nat.beq (List.length (subL b 0 (W64 ((List.length b : Nat) - 4)))) (List.length (subL b 0 (W64 ((List.length b : Nat) - 4)))) then
 some ((0, subL b 0 (W64 ((List.length b : Nat) - 4))))
 else none
 else none
 else none)
def z15y : Sig := ⟨57, [.d (.sl (.int .u8))], [], 0, z16m⟩
def z13y (x : (List Int)) : Option ((Int × (List Int))) := zty x
theorem z1ff : FnOK Try.prog z15y z13y :=
 fn_ok z1du (h := (.two .no (.two .no (.two .no (.two .no (.two (.reg [4] []) .no)))))) Try.func57 (z0d [] (by kernel_rfl) trivial) (by kernel_rfl) z1cs (fun x => by kernel_rfl)
def z19q : Env := ⟨[], [], []⟩
theorem z16f : EnvsOK Try.prog z19q := ⟨z0i _, z0e _, z0f _⟩
def zs0 : Shp := ⟨1, 1, [(0, .fn 74 [.pt 1 (.one .leaf) []])], [.row 5 (.int .u8), .var 34 (.d (.sl (.int .u8)))]⟩
def zvq : XS := .one .ret zs0.xe
theorem z14e : zvq.OK := XS.one_ok (z0a zs0)
def zqf (b : List Bool) (b2 : List Int) : Option (((List Int) × (List Int))) :=
 winK b2 0 (lenW b) fun w =>
 appG (List.length ([] : List Int)) (List.length w) 1 fun _ =>
 winK w 0 (List.length w) fun w2 =>
 some (b2, w2)
def zvm : Sig := ⟨56, [.ws 0 (.int .u8)], [.row 5 (.int .u8)], 1, zvq⟩
def ztr (x : (List Bool) × (List Int)) : Option (((List Int) × (List Int))) := zqf x.1 x.2
theorem z17z : FnOK Try.prog zvm ztr :=
 fn_ok z16f (h := (.two .no (.two (.reg [2, 4] []) .no))) Try.func56 (z0d [] (by kernel_rfl) trivial) (by kernel_rfl) z14e (fun x => by kernel_rfl)
def z1am : Env := ⟨[], [(entP zvm ztr), (entP z15y z13y)], []⟩
theorem zrx : EnvsOK Try.prog z1am := ⟨z0i _, z0k (z0o z17z) (z0k (z0o z1ff) (z0e _)), z0f _⟩
def zex : Shp := ⟨27, 4, [], [.row 5 (.int .u8), .var 28 (.wn 4 (.sl (.int .u8))), .var 24 (.d (.int .i64)), .var 28 (.wn 5 (.sl (.int .u8))), .row 34 (.sl (.int .u8)), .row 34 (.sl (.int .u8))]⟩
def z5g : XS := .one .ret zex.xe
theorem zpm : z5g.OK := XS.one_ok (z0a zex)
def z4z : Shp := ⟨27, 1, [(2, .pt 1 (.one .leaf) []), (3, .pt 2 (.one .leaf) []), (4, .pt 3 (.one .leaf) []), (10, .fn 74 [.rf (.d (.sl (.int .u8)))])], [.row 5 (.int .u8), .var 28 (.wn 4 (.sl (.int .u8))), .var 24 (.d (.int .i64)), .var 28 (.wn 5 (.sl (.int .u8))), .row 34 (.sl (.int .u8)), .row 34 (.sl (.int .u8))]⟩
def z8h : Shp := ⟨27, 4, [], [.row 5 (.int .u8), .var 28 (.wn 4 (.sl (.int .u8))), .var 24 (.d (.int .i64)), .var 28 (.wn 5 (.sl (.int .u8))), .row 34 (.sl (.int .u8)), .row 34 (.sl (.int .u8))]⟩
abbrev z5a := (List Int) × (List Int) × Int × (List (List Int)) × (List (List Int))
abbrev z4v := (List Int) × Int × (List (List Int)) × (List (List Int))
abbrev zbk := ((List Int) × Int × (List (List Int)) × (List (List Int)))
abbrev zt7 := (List Int) × Int
def zbo (t10 : List Int) (h : List Int) (t3 : Int) (t2 : List (List Int)) (out : List (List Int)) (h2 : List Int) (h3 : Int) (h4 : List (List Int)) (h5 : List (List Int)) (t11 : List Int) (t12 : Int) : Option (z4v ⊕ zbk) :=
 bif neI t12 0 then
 bif Nat.beq 0 (List.length ([] : List (List Int))) then
 bif Nat.beq (List.length h5) (List.length h5) then
 some (.inr (h2, 7, ([] : List (List Int)), h5))
 else none
 else none
 else
 (zty t11).bind fun r =>
 bif neI r.1 0 then
 bif Nat.beq 0 (List.length ([] : List (List Int))) then
 bif Nat.beq (List.length h5) (List.length h5) then
 some (.inr (h2, 9, ([] : List (List Int)), h5))
 else none
 else none
 else
 winK r.2 0 (List.length r.2) fun w =>
 bif Nat.beq (List.length h5) (List.length h5) then
 appG (List.length h5) (List.length ([w] : List (List Int))) 24 fun _ =>
 bif Nat.beq (List.length h4) (List.length h4) then
 bif Nat.beq (List.length (h5 ++ ([w] : List (List Int)))) (List.length (h5 ++ ([w] : List (List Int)))) then
 some (.inl (h2, h3, h4, h5 ++ ([w] : List (List Int))))
 else none
 else none
 else none
def z1a (s : z5a) (h : z4v) (x : zt7) : Option (z4v ⊕ zbk) := zbo s.1 s.2.1 s.2.2.1 s.2.2.2.1 s.2.2.2.2 h.1 h.2.1 h.2.2.1 h.2.2.2 x.1 x.2
def z2y (s : z5a) : z4v := (s.2.1, s.2.2.1, s.2.2.2.1, s.2.2.2.2)
def z4k (s : z5a) : (List Int) := s.1
def zbp (s : z5a) : Option (z4v ⊕ zbk) := (ze9 (decB (z1a s) (z2y s)) (z4k s)).bind fun tr => runB (z1a s) (z2y s) tr
theorem zq2 : SoundD Try.prog (.rangeFunc (.tmp 10) #[11, 12] (subC (bodyC Try.f35) [1, 1, 0, 1, 0, 0]) (subC (bodyC Try.f35) [1, 1, 0, 1, 0, 1])) (zzu (A := [.d (.sl (.int .u8)), .d (.int .i64)]) (C := [.rf (.d (.sl (.int .u8)))]) z4z.xe z8h z5g ze9 z4k z2y z1a) :=
 z1it (A := [.d (.sl (.int .u8)), .d (.int .i64)]) (C := [.rf (.d (.sl (.int .u8)))]) (S := z4z.xe) (Sh := z8h) (X := z5g) zrx z1l0 (g1 := .no) (g2 := (.two .no (.two .no (.two .no (.reg [2000002] []))))) (z0d [] (by kernel_rfl) trivial) (z0d [] (by kernel_rfl) trivial) (z0a z4z) zpm (fun s => by kernel_rfl) (fun s => by kernel_rfl) (fun s => by kernel_rfl) (fun s => by kernel_rfl) (fun s => by kernel_rfl) (fun x => by kernel_rfl) (fun x => by kernel_rfl) z1a (fun s h x => by kernel_rfl)
def zs9 : Shp := ⟨1, 1, [(0, .tu [.wn 1 (.sl (.int .u8)), .d (.int .i64)])], [.row 5 (.int .u8), .row 34 (.sl (.int .u8))]⟩
def zwy : XS := .one .ret zs9.xe
theorem z14q : zwy.OK := XS.one_ok (z0a zs9)
def zev (b : List Bool) (b2 : List Int) : Option ((Int × (List Int) × (List (List Int)))) :=
 (zqf (List.replicate (lenW b) true) b2).bind fun r =>
 bif Nat.beq 0 (List.length ([] : List (List Int))) then
 bif Nat.beq 0 (List.length ([] : List (List Int))) then
 (zbp (r.2, r.1, 0, ([] : List (List Int)), ([] : List (List Int)))).bind fun o =>
 Sum.elim (fun y =>
 bif Nat.beq (List.length y.2.2.2) (List.length y.2.2.2) then
 some (0, y.1, y.2.2.2)
 else none) (fun y2 =>
 bif Nat.beq (List.length y2.2.2.1) (List.length y2.2.2.1) then
 some (y2.2.1, y2.1, y2.2.2.1)
 else none) o
 else none
 else none
def zn8 : Sig := ⟨35, [.ws 0 (.int .u8)], [.row 5 (.int .u8)], 1, zwy⟩
def zle (x : (List Bool) × (List Int)) : Option ((Int × (List Int) × (List (List Int)))) := zev x.1 x.2
theorem zti : FnOK Try.prog zn8 zle :=
 fn_ok zrx (h := (.two .no (.two .no (.two (.two .no (.over (zzu (A := [.d (.sl (.int .u8)), .d (.int .i64)]) (C := [.rf (.d (.sl (.int .u8)))]) z4z.xe z8h z5g ze9 z4k z2y z1a))) .no)))) Try.func35 (z0d [.den (.rangeFunc (.tmp 10) #[11, 12] (subC (bodyC Try.f35) [1, 1, 0, 1, 0, 0]) (subC (bodyC Try.f35) [1, 1, 0, 1, 0, 1])) (zzu (A := [.d (.sl (.int .u8)), .d (.int .i64)]) (C := [.rf (.d (.sl (.int .u8)))]) z4z.xe z8h z5g ze9 z4k z2y z1a)] (by kernel_rfl) ⟨zq2, trivial⟩) (by kernel_rfl) z14q (fun x => by kernel_rfl)
def z1a2 : Env := ⟨[(entQ zgf zfe), (entQ z7k z6p), (entQ zog zny), (entQ zp4 zmt), (entQ zgh zfh)], [(entP zir zhu), (entP zn8 zle)], []⟩
theorem zjk : EnvsOK Try.prog z1a2 := ⟨z0c (z0h znv) (z0c (z0h z8q) (z0c (z0h z11o) (z0c (z0h zwu) (z0c (z0h znz) (z0i _))))), z0k (z0o ztx) (z0k (z0o zti) (z0e _)), z0f _⟩
def zce : Shp := ⟨138, 0, [(0, .c .nilp), (5, .pt 0 r6 [])], [.var 75 (.ag [.c .nilp, .d c4, .wn 1 (.int .u8), .d (.int .i64), .d .bool]), .row 5 (.int .u8)]⟩
def zcm : Shp := ⟨138, 0, [(2, .c .nilp), (3, .d c5), (4, .d (.int .i64))], []⟩
def z3s : XS := .or (.exit 0) zce.xe (.one .ret zcm.xe)
theorem zmi : z3s.OK := XS.or_ok (z0a zce) (XS.one_ok (z0a zcm))
def z3p : Shp := ⟨138, 0, [(0, .c .nilp), (5, .pt 0 r6 []), (6, .d (.int .i64)), (26, .d (.int .i64))], [.var 75 (.ag [.c .nilp, .d c4, .wn 1 (.int .u8), .d (.int .i64), .d .bool]), .row 5 (.int .u8)]⟩
abbrev z9e := Int × Int × T2 × Int × Bool × (List Int)
abbrev zdy := (T2 × Int × Bool × (List Int)) ⊕ ((List (List Int)) × Int)
def zow (room : Int) (t26 : Int) (j : T2) (j2 : Int) (j3 : Bool) (j4 : List Int) : Option (z9e ⊕ zdy) :=
 bif ltI t26 2 then
 (zk4 t26).bind fun r =>
 bif neI r.2 0 then
 some (.inr (.inr ([], r.2)))
 else
 (zgx r.1 room).bind fun r2 =>
 bif ltI j.1 r2.1 then
 bif Nat.beq (List.length j4) (List.length j4) then
 some (.inl (room, W64 (t26 + 1), r2, j2, j3, j4))
 else none
 else
 bif Nat.beq (List.length j4) (List.length j4) then
 some (.inl (room, W64 (t26 + 1), j, j2, j3, j4))
 else none
 else
 bif Nat.beq (List.length j4) (List.length j4) then
 some (.inr (.inl (j, j2, j3, j4)))
 else none
def z3w (s : z9e) : Option (z9e ⊕ zdy) := zow s.1 s.2.1 s.2.2.1 s.2.2.2.1 s.2.2.2.2.1 s.2.2.2.2.2
theorem zmr : SoundD Try.prog (.loop (subC (bodyC Try.f10) [1, 1, 1, 1, 0, 1, 0, 0])) (loopD z3p.xe z3s (loopC z3w)) :=
 z1c (S := z3p.xe) (X := z3s) zjk (h := .no) (z0d [] (by kernel_rfl) trivial) (z0a z3p) zmi z3w (fun s => by kernel_rfl)
def zan : Shp := ⟨138, 0, [(5, .pt 0 r6 [])], [.var 75 (.ag [.c .nilp, .d c4, .wn 1 (.int .u8), .d (.int .i64), .d .bool]), .row 5 (.int .u8)]⟩
def zav : Shp := ⟨138, 0, [(2, .c .nilp), (3, .d c5), (4, .d (.int .i64))], []⟩
def z2i : XS := .or (.exit 2) zan.xe (.one .ret zav.xe)
theorem zi5 : z2i.OK := XS.or_ok (z0a zan) (XS.one_ok (z0a zav))
def z2h : Shp := ⟨138, 0, [(0, .c .nilp), (5, .pt 0 r6 []), (12, .d (.int .i64))], [.var 75 (.ag [.c .nilp, .d c4, .wn 1 (.int .u8), .d (.int .i64), .d .bool]), .row 5 (.int .u8)]⟩
abbrev z7l := Int × T2 × Int × Bool × (List Int)
abbrev zbs := (T2 × Int × Bool × (List Int)) ⊕ ((List (List Int)) × Int)
def zla (i : Int) (j : T2) (j2 : Int) (j3 : Bool) (j4 : List Int) : Option (z7l ⊕ zbs) :=
 bif ltI (W64 (i * 256)) j.2.2 then
 winK j4 0 (List.length j4) fun w =>
 (zj1 j w j2 j3 j.2.1 i).bind fun r =>
 (zk4 r).bind fun r2 =>
 bif neI r2.2 0 then
 some (.inr (.inr ([], r2.2)))
 else
 bif Nat.beq (List.length j4) (List.length j4) then
 appG (List.length j4) (List.length r2.1) 1 fun _ =>
 bif Nat.beq (List.length (j4 ++ r2.1)) (List.length (j4 ++ r2.1)) then
 some (.inl (W64 (i + 1), j, j2, j3, j4 ++ r2.1))
 else none
 else none
 else
 bif Nat.beq (List.length j4) (List.length j4) then
 some (.inr (.inl (j, j2, j3, j4)))
 else none
def z2g (s : z7l) : Option (z7l ⊕ zbs) := zla s.1 s.2.1 s.2.2.1 s.2.2.2.1 s.2.2.2.2
theorem zic : SoundD Try.prog (.loop (subC (bodyC Try.f10) [1, 1, 1, 1, 1, 1, 0, 1, 0, 0])) (loopD z2h.xe z2i (loopC z2g)) :=
 z1c (S := z2h.xe) (X := z2i) zjk (h := .no) (z0d [] (by kernel_rfl) trivial) (z0a z2h) zi5 z2g (fun s => by kernel_rfl)
def zrz : Shp := ⟨1, 0, [(0, .tu [.c .nilp, .d c5, .d (.int .i64)])], []⟩
def zry : Shp := ⟨1, 0, [(0, .tu [.pt 0 r6 [], .wn 1 (.sl (.int .u8)), .d (.int .i64)])], [.var 75 (.ag [.c .nilp, .d c4, .d (.sl (.int .u8)), .d (.int .i64), .d .bool]), .row 34 (.sl (.int .u8))]⟩
def zw1 : XS := .or .ret zrz.xe (.one .ret zry.xe)
theorem z14i : zw1.OK := XS.or_ok (z0a zrz) (XS.one_ok (z0a zry))
def zc8  : Option (((List (List Int)) × Int) ⊕ (Int × T2 × (List Int) × Int × Bool × (List (List Int)))) :=
 (ziw).bind fun r =>
 bif ltI r 6 then
 some (.inl ([], 1))
 else
 (z9f).bind fun r2 =>
 bif Nat.beq 0 (List.length ([] : List Int)) then
 (loopC z3w (W64 (r2 * 256), 0, (0, 0, 0), 0, false, ([] : List Int))).bind fun o =>
 Sum.elim (fun y =>
 bif eqI y.1.1 0 then
 bif Nat.beq (List.length y.2.2.2) (List.length y.2.2.2) then
 (zlw (1, 0, 0) y.1 y.2.1 y.2.2.1 y.2.2.2).bind fun r3 =>
 bif neI r3.1 0 then
 some (.inl ([], r3.1))
 else
 bif Nat.beq 0 (List.length ([] : List (List Int))) then
 some (.inr (0, r3.2.1, r3.2.2.1, r3.2.2.2.1, r3.2.2.2.2, ([] : List (List Int))))
 else none
 else none
 else
 bif Nat.beq (List.length y.2.2.2) (List.length y.2.2.2) then
 (loopC z2g (0, y.1, y.2.1, y.2.2.1, y.2.2.2)).bind fun o2 =>
 Sum.elim (fun y3 =>
 bif subOk 0 y3.1.2.2 (List.length y3.2.2.2) && eqI y3.1.2.2 y3.1.2.2 then
 (zev (List.replicate y3.1.2.2.toNat true) y3.2.2.2).bind fun r4 =>
 bif neI r4.1 0 then
 some (.inl ([], r4.1))
 else
 z0j (List.length r4.2.2) (
 winK r4.2.1 0 y3.1.2.2.toNat fun w =>
 bif Nat.beq (List.length r4.2.2) (List.length r4.2.2) then
 some (.inr (0, y3.1, w, (List.length r4.2.2 : Nat), y3.2.2.1, r4.2.2))
 else none)
 else none) (fun y4 =>
 some (.inl (y4.1, y4.2))) o2
 else none) (fun y2 =>
 some (.inl (y2.1, y2.2))) o
 else none
def zn3 : Sig := ⟨10, [.c .nilp], [], 0, zw1⟩
def zlg (x : Unit) : Option (((List (List Int)) × Int) ⊕ (Int × T2 × (List Int) × Int × Bool × (List (List Int)))) := zc8 
theorem ztj : FnOK Try.prog zn3 zlg :=
 fn_ok zjk (h := (.two .no (.two .no (.two .no (.two .no (.two (.two .no (.over (loopD z3p.xe z3s (loopC z3w)))) (.two .no (.two (.two .no (.over (loopD z2h.xe z2i (loopC z2g)))) .no)))))))) Try.func10 (z0d [.den (.loop (subC (bodyC Try.f10) [1, 1, 1, 1, 0, 1, 0, 0])) (loopD z3p.xe z3s (loopC z3w)), .den (.loop (subC (bodyC Try.f10) [1, 1, 1, 1, 1, 1, 0, 1, 0, 0])) (loopD z2h.xe z2i (loopC z2g))] (by kernel_rfl) ⟨zmr, zic, trivial⟩) (by kernel_rfl) z14i (fun x => by kernel_rfl)
def zw4 : Env := ⟨[], [], []⟩
theorem zsp : EnvsOK Try.prog zw4 := ⟨z0i _, z0e _, z0f _⟩
def zgn : Shp := ⟨1, 0, [(0, .d .bool)], []⟩
def zjb : XS := .one .ret zgn.xe
theorem zrg : zjb.OK := XS.one_ok (z0a zgn)
def zea (j : T2) (j2 : List Int) (j3 : Int) (j4 : Bool) : Option ((Bool)) :=
 some j4
def zcp : Sig := ⟨15, [.rf (.ag [.c .nilp, .d c4, .d (.sl (.int .u8)), .d (.int .i64), .d .bool])], [], 0, zjb⟩
def zbz (x : T2 × (List Int) × Int × Bool) : Option ((Bool)) := zea x.1 x.2.1 x.2.2.1 x.2.2.2
theorem zhi : FnOK Try.prog zcp zbz :=
 fn_ok zsp (h := .no) Try.func15 (z0d [] (by kernel_rfl) trivial) (by kernel_rfl) zrg (fun x => by kernel_rfl)
def z1hb : Env := ⟨[], [], []⟩
theorem z10l : EnvsOK Try.prog z1hb := ⟨z0i _, z0e _, z0f _⟩
def zb0 : Shp := ⟨41, 0, [(4, .wn 0 (.int .u8)), (6, .d (.sl (.int .u8))), (9, .d c5), (10, .d (.int .i64)), (11, .d (.int .i64))], [.row 5 (.int .u8)]⟩
def zbg : Shp := ⟨41, 0, [(2, .d (.sl (.int .u8))), (3, .d (.int .i64))], []⟩
def z7s : XS := .or .normal zb0.xe (.one .ret zbg.xe)
theorem zjh : z7s.OK := XS.or_ok (z0a zb0) (XS.one_ok (z0a zbg))
def zj6 : Shp := ⟨41, 0, [(4, .wn 0 (.int .u8))], [.row 5 (.int .u8)]⟩
def zjt : Shp := ⟨41, 0, [(2, .d (.sl (.int .u8))), (3, .d (.int .i64))], []⟩
def z8a : XS := .or (.exit 0) zj6.xe (.one .ret zjt.xe)
theorem zud : z8a.OK := XS.or_ok (z0a zj6) (XS.one_ok (z0a zjt))
def z8e : Shp := ⟨41, 0, [(4, .wn 0 (.int .u8)), (9, .d c5), (10, .d (.int .i64)), (11, .d (.int .i64))], [.row 5 (.int .u8)]⟩
abbrev zeg := (List (List Int)) × Int × Int × (List Int)
abbrev zm5 := ((List Int)) ⊕ ((List Int) × Int)
def z8f (t9 : List (List Int)) (t10 : Int) (t11 : Int) (out : List Int) : Option (zeg ⊕ zm5) :=
 bif ltI t11 t10 then
 (idxI t9 t11).bind fun x =>
 (show Option (((List Int) × (List (List Int)) × Int × Int × (List Int)) ⊕ ((List Int) × Int)) from
 z0j (List.length x) (
 bif ltI 65535 (List.length x : Nat) then
 some (.inr ([], 4))
 else
 bif ltI (List.length x : Nat) 255 then
 bif Nat.beq (List.length out) (List.length out) then
 appG (List.length out) (List.length ([WU8 ((List.length x : Nat))] : List Int)) 1 fun _ =>
 bif Nat.beq (List.length (out ++ ([WU8 ((List.length x : Nat))] : List Int))) (List.length (out ++ ([WU8 ((List.length x : Nat))] : List Int))) then
 some (.inl ((x, t9, t10, t11, out ++ ([WU8 ((List.length x : Nat))] : List Int))))
 else none
 else none
 else
 bif Nat.beq (List.length out) (List.length out) then
 appG (List.length out) (List.length ([255, WU8 (shI .shr .i64 (List.length x : Nat) 8), WU8 ((List.length x : Nat))] : List Int)) 1 fun _ =>
 bif Nat.beq (List.length (out ++ ([255, WU8 (shI .shr .i64 (List.length x : Nat) 8), WU8 ((List.length x : Nat))] : List Int))) (List.length (out ++ ([255, WU8 (shI .shr .i64 (List.length x : Nat) 8), WU8 ((List.length x : Nat))] : List Int))) then
 some (.inl ((x, t9, t10, t11, out ++ ([255, WU8 (shI .shr .i64 (List.length x : Nat) 8), WU8 ((List.length x : Nat))] : List Int))))
 else none
 else none)).bind fun j =>
 Sum.elim (fun y =>
 bif Nat.beq (List.length y.2.2.2.2) (List.length y.2.2.2.2) then
 appG (List.length y.2.2.2.2) (List.length y.1) 1 fun _ =>
 bif Nat.beq (List.length (y.2.2.2.2 ++ y.1)) (List.length (y.2.2.2.2 ++ y.1)) then
 some (.inl (y.2.1, y.2.2.1, W64 (y.2.2.2.1 + 1), y.2.2.2.2 ++ y.1))
 else none
 else none) (fun y2 =>
 some (.inr (.inr (y2.1, y2.2)))) j
 else
 bif Nat.beq (List.length out) (List.length out) then
 some (.inr (.inl out))
 else none
def z5k (s : zeg) : Option (zeg ⊕ zm5) := z8f s.1 s.2.1 s.2.2.1 s.2.2.2
theorem zvh : SoundD Try.prog (.loop (subC (bodyC Try.f58) [1, 1, 0, 1, 0, 0])) (loopD z8e.xe z8a (loopC z5k)) :=
 z1c (S := z8e.xe) (X := z8a) z10l (h := (.two .no (.two .no (.two (.two .no (.join (fun _ => z7s) .no .no)) .no)))) (z0d [.xs (fun _ => z7s)] (by kernel_rfl) ⟨(z4b zjh), trivial⟩) (z0a z8e) zud z5k (fun s => by kernel_rfl)
def z11d : Shp := ⟨1, 0, [(0, .tu [.d (.sl (.int .u8)), .d (.int .i64)])], []⟩
def z15z : XS := .one .ret z11d.xe
theorem z1b6 : z15z.OK := XS.one_ok (z0a z11d)
def zue (fields : List (List Int)) : Option (((List Int) × Int)) :=
 z0j (List.length fields) (
 bif Nat.beq (List.length ([] : List Int)) (List.length ([] : List Int)) then
 (loopC z5k (fields, (List.length fields : Nat), 0, ([] : List Int))).bind fun o =>
 Sum.elim (fun y =>
 winK y 0 (List.length y) fun w =>
 some (w, 0)) (fun y2 =>
 some (y2.1, y2.2)) o
 else none)
def z15x : Sig := ⟨58, [.d c5], [], 0, z15z⟩
def z13s (x : (List (List Int))) : Option (((List Int) × Int)) := zue x
theorem z1fg : FnOK Try.prog z15x z13s :=
 fn_ok z10l (h := (.two .no (.two (.reg [0] []) (.two (.two .no (.over (loopD z8e.xe z8a (loopC z5k)))) .no)))) Try.func58 (z0d [.den (.loop (subC (bodyC Try.f58) [1, 1, 0, 1, 0, 0])) (loopD z8e.xe z8a (loopC z5k))] (by kernel_rfl) ⟨zvh, trivial⟩) (by kernel_rfl) z1b6 (fun x => by kernel_rfl)
def z1he : Env := ⟨[(entQ z15h z13j)], [], []⟩
theorem z1dv : EnvsOK Try.prog z1he := ⟨z0c (z0h z1b7) (z0i _), z0e _, z0f _⟩
def z10p : Shp := ⟨1, 0, [(0, .wn 0 (.int .u8))], [.row 5 (.int .u8)]⟩
def z15o : XS := .one .ret z10p.xe
theorem z1cp : z15o.OK := XS.one_ok (z0a z10p)
def ztt (b : List Int) : Option (((List Int))) :=
 (z11t b).bind fun r =>
 appG (List.length ([] : List Int)) (List.length b) 1 fun _ =>
 bif Nat.beq (List.length b) (List.length b) then
 appG (List.length b) (List.length ([WU8 (shI .shr .u32 r 24), WU8 (shI .shr .u32 r 16), WU8 (shI .shr .u32 r 8), WU8 (r)] : List Int)) 1 fun _ =>
 bif Nat.beq (List.length (b ++ ([WU8 (shI .shr .u32 r 24), WU8 (shI .shr .u32 r 16), WU8 (shI .shr .u32 r 8), WU8 (r)] : List Int))) (List.length (b ++ ([WU8 (shI .shr .u32 r 24), WU8 (shI .shr .u32 r 16), WU8 (shI .shr .u32 r 8), WU8 (r)] : List Int))) then
 some (b ++ ([WU8 (shI .shr .u32 r 24), WU8 (shI .shr .u32 r 16), WU8 (shI .shr .u32 r 8), WU8 (r)] : List Int))
 else none
 else none
def z16q : Sig := ⟨59, [.d (.sl (.int .u8))], [], 0, z15o⟩
def z13x (x : (List Int)) : Option (((List Int))) := ztt x
theorem z1fj : FnOK Try.prog z16q z13x :=
 fn_ok z1dv (h := (.two .no (.two .no (.two (.reg [2] []) .no)))) Try.func59 (z0d [] (by kernel_rfl) trivial) (by kernel_rfl) z1cp (fun x => by kernel_rfl)
def z1d8 : Env := ⟨[(entQ z15x z13s)], [(entP z16q z13x)], []⟩
theorem zn4 : EnvsOK Try.prog z1d8 := ⟨z0c (z0h z1fg) (z0i _), z0k (z0o z1fj) (z0e _), z0f _⟩
def zh4 : Shp := ⟨48, 0, [(0, .d c5), (1, .d (.int .i64)), (6, .wn 0 (.int .u8))], [.row 5 (.int .u8)]⟩
def zh1 : Shp := ⟨48, 0, [(4, .d (.sl (.int .u8))), (5, .d (.int .i64))], []⟩
def z6m : XS := .or (.exit 0) zh4.xe (.one .ret zh1.xe)
theorem zrj : z6m.OK := XS.or_ok (z0a zh4) (XS.one_ok (z0a zh1))
def z6o : Shp := ⟨48, 0, [(0, .d c5), (1, .d (.int .i64)), (6, .wn 0 (.int .u8)), (13, .d c5), (14, .d (.int .i64)), (15, .d (.int .i64))], [.row 5 (.int .u8)]⟩
abbrev zcd := (List (List Int)) × Int × (List (List Int)) × Int × Int × (List Int)
abbrev ziu := ((List (List Int)) × Int × (List Int)) ⊕ ((List Int) × Int)
def z6l (records : List (List Int)) (room : Int) (t13 : List (List Int)) (t14 : Int) (t15 : Int) (out : List Int) : Option (zcd ⊕ ziu) :=
 bif ltI t15 t14 then
 (idxI t13 t15).bind fun x =>
 z0j (List.length x) (
 bif ltI 65531 (List.length x : Nat) then
 some (.inr (.inr ([], 4)))
 else
 bif Nat.beq (List.length out) (List.length out) then
 some (.inl (records, room, t13, t14, W64 (t15 + 1), out))
 else none)
 else
 bif Nat.beq (List.length out) (List.length out) then
 some (.inr (.inl (records, room, out)))
 else none
def z4h (s : zcd) : Option (zcd ⊕ ziu) := z6l s.1 s.2.1 s.2.2.1 s.2.2.2.1 s.2.2.2.2.1 s.2.2.2.2.2
theorem zsr : SoundD Try.prog (.loop (subC (bodyC Try.f36) [1, 1, 0, 1, 0, 0])) (loopD z6o.xe z6m (loopC z4h)) :=
 z1c (S := z6o.xe) (X := z6m) zn4 (h := .no) (z0d [] (by kernel_rfl) trivial) (z0a z6o) zrj z4h (fun s => by kernel_rfl)
def zfd : Shp := ⟨48, 0, [(6, .wn 0 (.int .u8))], [.row 5 (.int .u8)]⟩
def zf1 : Shp := ⟨48, 0, [(4, .d (.sl (.int .u8))), (5, .d (.int .i64))], []⟩
def z5e : XS := .or (.exit 2) zfd.xe (.one .ret zf1.xe)
theorem zpg : z5e.OK := XS.or_ok (z0a zfd) (XS.one_ok (z0a zf1))
def z4y : Shp := ⟨48, 0, [(1, .d (.int .i64)), (6, .wn 0 (.int .u8)), (23, .d c5), (24, .d (.int .i64)), (25, .d (.int .i64))], [.row 5 (.int .u8)]⟩
abbrev zbl := Int × (List (List Int)) × Int × Int × (List Int)
abbrev zgl := ((List Int)) ⊕ ((List Int) × Int)
def z5b (room : Int) (t23 : List (List Int)) (t24 : Int) (t25 : Int) (out : List Int) : Option (zbl ⊕ zgl) :=
 bif ltI t25 t24 then
 (idxI t23 t25).bind fun x =>
 z0j (List.length out) (
 bif ltI room (List.length out : Nat) then
 some (.inr (.inr ([], 5)))
 else
 (ztt x).bind fun r =>
 winK r 0 (List.length r) fun w =>
 (zue ([w] : List (List Int))).bind fun r2 =>
 bif neI r2.2 0 then
 some (.inr (.inr ([], r2.2)))
 else
 bif Nat.beq (List.length out) (List.length out) then
 appG (List.length out) (List.length r2.1) 1 fun _ =>
 bif Nat.beq (List.length (out ++ r2.1)) (List.length (out ++ r2.1)) then
 some (.inl (room, t23, t24, W64 (t25 + 1), out ++ r2.1))
 else none
 else none)
 else
 bif Nat.beq (List.length out) (List.length out) then
 some (.inr (.inl out))
 else none
def z5f (s : zbl) : Option (zbl ⊕ zgl) := z5b s.1 s.2.1 s.2.2.1 s.2.2.2.1 s.2.2.2.2
theorem zq3 : SoundD Try.prog (.loop (subC (bodyC Try.f36) [1, 1, 1, 0, 1, 0, 0])) (loopD z4y.xe z5e (loopC z5f)) :=
 z1c (S := z4y.xe) (X := z5e) zn4 (h := (.two .no (.two .no (.two (.two .no (.two .no (.two (.reg [2000002] []) .no))) .no)))) (z0d [] (by kernel_rfl) trivial) (z0a z4y) zpg z5f (fun s => by kernel_rfl)
def zvf : Shp := ⟨1, 0, [(0, .tu [.d (.sl (.int .u8)), .d (.int .i64)])], []⟩
def zzq : XS := .one .ret zvf.xe
theorem z18g : zzq.OK := XS.one_ok (z0a zvf)
def zci (records : List (List Int)) (room : Int) : Option (((List Int) × Int)) :=
 z0j (List.length records) (
 bif Nat.beq 0 (List.length ([] : List Int)) then
 (loopC z4h (records, room, records, (List.length records : Nat), 0, ([] : List Int))).bind fun o =>
 Sum.elim (fun y =>
 z0j (List.length y.1) (
 bif Nat.beq (List.length y.2.2) (List.length y.2.2) then
 (loopC z5f (y.2.1, y.1, (List.length y.1 : Nat), 0, y.2.2)).bind fun o2 =>
 Sum.elim (fun y3 =>
 winK y3 0 (List.length y3) fun w =>
 some (w, 0)) (fun y4 =>
 some (y4.1, y4.2)) o2
 else none)) (fun y2 =>
 some (y2.1, y2.2)) o
 else none)
def zez : Sig := ⟨36, [.d c5, .d (.int .i64)], [], 0, zzq⟩
def zdg (x : (List (List Int)) × Int) : Option (((List Int) × Int)) := zci x.1 x.2
theorem zi2 : FnOK Try.prog zez zdg :=
 fn_ok zn4 (h := (.two .no (.two .no (.two (.two .no (.over (loopD z6o.xe z6m (loopC z4h)))) (.two (.two .no (.over (loopD z4y.xe z5e (loopC z5f)))) .no))))) Try.func36 (z0d [.den (.loop (subC (bodyC Try.f36) [1, 1, 0, 1, 0, 0])) (loopD z6o.xe z6m (loopC z4h)), .den (.loop (subC (bodyC Try.f36) [1, 1, 1, 0, 1, 0, 0])) (loopD z4y.xe z5e (loopC z5f))] (by kernel_rfl) ⟨zsr, zq3, trivial⟩) (by kernel_rfl) z18g (fun x => by kernel_rfl)
def z18i : Env := ⟨[], [(entP z12j zze)], []⟩
theorem zhb : EnvsOK Try.prog z18i := ⟨z0i _, z0k (z0o z19k) (z0e _), z0f _⟩
def zej : Shp := ⟨36, 0, [(0, .d c5), (3, .d (.int .i64))], []⟩
def z4l : XS := .one (.exit 0) zej.xe
theorem zp6 : z4l.OK := XS.one_ok (z0a zej)
def z4m : Shp := ⟨36, 0, [(0, .d c5), (3, .d (.int .i64)), (9, .d c5), (10, .d (.int .i64)), (11, .d (.int .i64))], []⟩
abbrev zap := (List (List Int)) × Int × (List (List Int)) × Int × Int
abbrev zfu := ((List (List Int)) × Int)
def zs7 (slices : List (List Int)) (size : Int) (t9 : List (List Int)) (t10 : Int) (t11 : Int) : Option (zap ⊕ zfu) :=
 bif ltI t11 t10 then
 (idxI t9 t11).bind fun x =>
 z0j (List.length x) (
 bif ltI (W64 (size + (List.length x : Nat))) 0 then
 none
 else
 some (.inl (slices, W64 (size + (List.length x : Nat)), t9, t10, W64 (t11 + 1))))
 else
 some (.inr (slices, size))
def z3a (s : zap) : Option (zap ⊕ zfu) := zs7 s.1 s.2.1 s.2.2.1 s.2.2.2.1 s.2.2.2.2
theorem zph : SoundD Try.prog (.loop (subC (bodyC Try.f38) [1, 1, 0, 1, 0, 0])) (loopD z4m.xe z4l (loopC z3a)) :=
 z1c (S := z4m.xe) (X := z4l) zhb (h := .no) (z0d [] (by kernel_rfl) trivial) (z0a z4m) zp6 z3a (fun s => by kernel_rfl)
def zc1 : Shp := ⟨36, 0, [(6, .wn 0 (.int .u8))], [.row 5 (.int .u8)]⟩
def z3h : XS := .one (.exit 2) zc1.xe
theorem zlj : z3h.OK := XS.one_ok (z0a zc1)
def z3f : Shp := ⟨36, 0, [(6, .wn 0 (.int .u8)), (25, .d c5), (26, .d (.int .i64)), (27, .d (.int .i64))], [.row 5 (.int .u8)]⟩
abbrev z8y := (List (List Int)) × Int × Int × (List Int)
abbrev zcy := ((List Int))
def zo9 (t25 : List (List Int)) (t26 : Int) (t27 : Int) (newslice : List Int) : Option (z8y ⊕ zcy) :=
 bif ltI t27 t26 then
 (idxI t25 t27).bind fun x =>
 bif Nat.beq (List.length newslice) (List.length newslice) then
 appG (List.length newslice) (List.length x) 1 fun _ =>
 bif Nat.beq (List.length (newslice ++ x)) (List.length (newslice ++ x)) then
 some (.inl (t25, t26, W64 (t27 + 1), newslice ++ x))
 else none
 else none
 else
 bif Nat.beq (List.length newslice) (List.length newslice) then
 some (.inr newslice)
 else none
def z1x (s : z8y) : Option (z8y ⊕ zcy) := zo9 s.1 s.2.1 s.2.2.1 s.2.2.2
theorem zlq : SoundD Try.prog (.loop (subC (bodyC Try.f38) [1, 1, 1, 1, 0, 1, 0, 0])) (loopD z3f.xe z3h (loopC z1x)) :=
 z1c (S := z3f.xe) (X := z3h) zhb (h := .no) (z0d [] (by kernel_rfl) trivial) (z0a z3f) zlj z1x (fun s => by kernel_rfl)
def zpt : Shp := ⟨1, 0, [(0, .d (.sl (.int .u8)))], []⟩
def zta : XS := .one .ret zpt.xe
theorem z11z : zta.OK := XS.one_ok (z0a zpt)
def zdv (slices : List (List Int)) : Option (((List Int))) :=
 z0j (List.length slices) (
 (loopC z3a (slices, 0, slices, (List.length slices : Nat), 0)).bind fun o =>
 (z12q o.2).bind fun r =>
 z0j (List.length o.1) (
 bif Nat.beq (List.length r) (List.length r) then
 (loopC z1x (o.1, (List.length o.1 : Nat), 0, r)).bind fun o2 =>
 winK o2 0 (List.length o2) fun w =>
 some w
 else none))
def zlb : Sig := ⟨38, [.d c5], [], 0, zta⟩
def zig (x : (List (List Int))) : Option (((List Int))) := zdv x
theorem zro : FnOK Try.prog zlb zig :=
 fn_ok zhb (h := (.two .no (.two .no (.two (.two .no (.over (loopD z4m.xe z4l (loopC z3a)))) (.two .no (.two (.two .no (.over (loopD z3f.xe z3h (loopC z1x)))) .no)))))) Try.func38 (z0d [.den (.loop (subC (bodyC Try.f38) [1, 1, 0, 1, 0, 0])) (loopD z4m.xe z4l (loopC z3a)), .den (.loop (subC (bodyC Try.f38) [1, 1, 1, 1, 0, 1, 0, 0])) (loopD z3f.xe z3h (loopC z1x))] (by kernel_rfl) ⟨zph, zlq, trivial⟩) (by kernel_rfl) z11z (fun x => by kernel_rfl)
def zx7 : Env := ⟨[(entQ z7k z6p), (entQ zgh zfh), (entQ zb8 zaj), (entQ za1 z9r)], [(entP zj4 zi1)], []⟩
theorem zhe : EnvsOK Try.prog zx7 := ⟨z0c (z0h z8q) (z0c (z0h znz) (z0c (z0h ze5) (z0c (z0h zcr) (z0i _)))), z0k (z0o ztw) (z0e _), z0f _⟩
def zbc : Shp := ⟨99, 1, [(0, .pt 0 r6 []), (1, .d (.int .i64)), (3, .d (.sl (.int .u8))), (4, .d (.int .i64))], [.var 75 (.ag [.c .nilp, .d c4, .d (.sl (.int .u8)), .d (.int .i64), .d .bool])]⟩
def zbf : Shp := ⟨99, 1, [(10, .d (.int .i64))], [.var 75 (.ag [.c .nilp, .d c4, .d (.sl (.int .u8)), .d (.int .i64), .d .bool])]⟩
def z2q : XS := .or (.exit 0) zbc.xe (.one .ret zbf.xe)
theorem zjl : z2q.OK := XS.or_ok (z0a zbc) (XS.one_ok (z0a zbf))
def z2r : Shp := ⟨99, 1, [(0, .pt 0 r6 []), (1, .d (.int .i64)), (3, .d (.sl (.int .u8))), (4, .d (.int .i64)), (11, .d (.int .i64))], [.var 75 (.ag [.c .nilp, .d c4, .d (.sl (.int .u8)), .d (.int .i64), .d .bool])]⟩
abbrev z7x := Int × (List Int) × Int × Int × T2 × (List Int) × Int × Bool
abbrev zc6 := (Int × (List Int) × Int × T2 × (List Int) × Int × Bool) ⊕ (Int × T2 × (List Int) × Int × Bool)
def zlp (side : Int) (all : List Int) (count : Int) (i : Int) (j : T2) (j2 : List Int) (j3 : Int) (j4 : Bool) : Option (z7x ⊕ zc6) :=
 z0j (List.length all) (
 bif ltI (W64 (i * 256)) (List.length all : Nat) then
 bif subOk (W64 (i * 256)) (List.length all : Nat) (List.length all) then
 bif Nat.ble 256 (List.length (List.replicate 256 (0 : Int))) then
 (zj1 j j2 j3 j4 side i).bind fun r =>
 winK (cpyL (List.replicate 256 (0 : Int)) 0 256 (subL all (W64 (i * 256)) (List.length all : Nat))) 0 256 fun w =>
 (zcs r w).bind fun r2 =>
 bif neI r2 0 then
 some (.inr (.inr (r2, j, j2, j3, true)))
 else
 some (.inl (side, all, count, W64 (i + 1), j, j2, j3, j4))
 else none
 else none
 else
 some (.inr (.inl (side, all, count, j, j2, j3, j4))))
def z2p (s : z7x) : Option (z7x ⊕ zc6) := zlp s.1 s.2.1 s.2.2.1 s.2.2.2.1 s.2.2.2.2.1 s.2.2.2.2.2.1 s.2.2.2.2.2.2.1 s.2.2.2.2.2.2.2
theorem zk7 : SoundD Try.prog (.loop (subC (bodyC Try.f37) [1, 1, 0, 1, 0, 0])) (loopD z2r.xe z2q (loopC z2p)) :=
 z1c (S := z2r.xe) (X := z2q) zhe (h := .no) (z0d [] (by kernel_rfl) trivial) (z0a z2r) zjl z2p (fun s => by kernel_rfl)
def zhq : Shp := ⟨1, 1, [(0, .d (.int .i64))], [.var 75 (.ag [.c .nilp, .d c4, .d (.sl (.int .u8)), .d (.int .i64), .d .bool])]⟩
def zl3 : XS := .one .ret zhq.xe
theorem zsu : zl3.OK := XS.one_ok (z0a zhq)
def zew (side : Int) (there : Int) (all : List Int) (count : Int) (j : T2) (j2 : List Int) (j3 : Int) (j4 : Bool) : Option ((Int × T2 × (List Int) × Int × Bool)) :=
 bif eqI j.1 4611686018427387904 then
 some (5, j, j2, j3, j4)
 else
 z0j (List.length all) (
 (z9f).bind fun r =>
 bif ltI (W64 (r * 256)) (List.length all : Nat) then
 some (5, j, j2, j3, j4)
 else
 (loopC z2p (side, all, count, W64 (Int.tdiv there 256), j, j2, j3, j4)).bind fun o =>
 Sum.elim (fun y =>
 (zbb).bind fun r2 =>
 bif neI r2 0 then
 some (r2, y.2.2.2.1, y.2.2.2.2.1, y.2.2.2.2.2.1, true)
 else
 z0j (List.length y.2.1) (
 (zmn (WU64 (y.2.2.2.1.1 + 1), y.1, (List.length y.2.1 : Nat)) y.2.2.2.1 y.2.2.2.2.1 y.2.2.2.2.2.1 y.2.2.2.2.2.2).bind fun r3 =>
 bif neI r3.1 0 then
 some (r3.1, r3.2.1, r3.2.2.1, r3.2.2.2.1, r3.2.2.2.2)
 else
 some (0, r3.2.1, y.2.1, y.2.2.1, r3.2.2.2.2))) (fun y2 =>
 some (y2.1, y2.2.1, y2.2.2.1, y2.2.2.2.1, y2.2.2.2.2)) o)
def zd8 : Sig := ⟨37, [.pt 0 r6 [], .d (.int .i64), .d (.int .i64), .d (.sl (.int .u8)), .d (.int .i64)], [.var 75 (.ag [.c .nilp, .d c4, .d (.sl (.int .u8)), .d (.int .i64), .d .bool])], 1, zl3⟩
def zc9 (x : Int × Int × (List Int) × Int × T2 × (List Int) × Int × Bool) : Option ((Int × T2 × (List Int) × Int × Bool)) := zew x.1 x.2.1 x.2.2.1 x.2.2.2.1 x.2.2.2.2.1 x.2.2.2.2.2.1 x.2.2.2.2.2.2.1 x.2.2.2.2.2.2.2
theorem zjs : FnOK Try.prog zd8 zc9 :=
 fn_ok zhe (h := (.two .no (.two .no (.two (.two .no (.over (loopD z2r.xe z2q (loopC z2p)))) .no)))) Try.func37 (z0d [.den (.loop (subC (bodyC Try.f37) [1, 1, 0, 1, 0, 0])) (loopD z2r.xe z2q (loopC z2p))] (by kernel_rfl) ⟨zk7, trivial⟩) (by kernel_rfl) zsu (fun x => by kernel_rfl)
def zxg : Env := ⟨[(entQ zcp zbz), (entQ z7k z6p), (entQ zez zdg), (entQ zlb zig)], [(entP zd8 zc9)], []⟩
theorem zu8 : EnvsOK Try.prog zxg := ⟨z0c (z0h zhi) (z0c (z0h z8q) (z0c (z0h zi2) (z0c (z0h zro) (z0i _)))), z0k (z0o zjs) (z0e _), z0f _⟩
def zhr : Shp := ⟨1, 1, [(0, .d (.int .i64))], [.var 75 (.ag [.c .nilp, .d c4, .d (.sl (.int .u8)), .d (.int .i64), .d .bool])]⟩
def zkl : XS := .one .ret zhr.xe
theorem zsn : zkl.OK := XS.one_ok (z0a zhr)
def zb4 (records : List (List Int)) (j : T2) (j2 : List Int) (j3 : Int) (j4 : Bool) : Option ((Int × T2 × (List Int) × Int × Bool)) :=
 (zea j j2 j3 j4).bind fun r =>
 bif r then
 some (3, j, j2, j3, j4)
 else
 (z9f).bind fun r2 =>
 (zci records (W64 (r2 * 256))).bind fun r3 =>
 bif neI r3.2 0 then
 some (r3.2, j, j2, j3, j4)
 else
 z0j (List.length records) (
 bif eqI (List.length records : Nat) 0 then
 some (r3.2, j, j2, j3, j4)
 else
 z0j (List.length j2) (
 (zdv ([j2, r3.1] : List (List Int))).bind fun r4 =>
 z0j (List.length records) (
 (zew j.2.1 (List.length j2 : Nat) r4 (W64 (j3 + (List.length records : Nat))) j j2 j3 j4).bind fun r5 =>
 some (r5.1, r5.2.1, r5.2.2.1, r5.2.2.2.1, r5.2.2.2.2))))
def zd9 : Sig := ⟨11, [.pt 0 r6 [], .d c5], [.var 75 (.ag [.c .nilp, .d c4, .d (.sl (.int .u8)), .d (.int .i64), .d .bool])], 1, zkl⟩
def zcf (x : (List (List Int)) × T2 × (List Int) × Int × Bool) : Option ((Int × T2 × (List Int) × Int × Bool)) := zb4 x.1 x.2.1 x.2.2.1 x.2.2.2.1 x.2.2.2.2
theorem zjz : FnOK Try.prog zd9 zcf :=
 fn_ok zu8 (h := (.two .no (.two .no (.two .no (.two .no (.two (.reg [] [25, 0, 1]) .no)))))) Try.func11 (z0d [] (by kernel_rfl) trivial) (by kernel_rfl) zsn (fun x => by kernel_rfl)
def zyz : Env := ⟨[(entQ z7k z6p)], [], []⟩
theorem zwn : EnvsOK Try.prog zyz := ⟨z0c (z0h z8q) (z0i _), z0e _, z0f _⟩
def zia : Shp := ⟨1, 0, [(0, .d (.int .i64))], []⟩
def zlz : XS := .one .ret zia.xe
theorem zu9 : zlz.OK := XS.one_ok (z0a zia)
def zoz (j : T2) (j2 : List Int) (j3 : Int) (j4 : Bool) : Option ((Int)) :=
 (z9f).bind fun r =>
 z0j (List.length j2) (
 some (W64 ((W64 (r * 256)) - (List.length j2 : Nat))))
def zmb : Sig := ⟨13, [.rf (.ag [.c .nilp, .d c4, .d (.sl (.int .u8)), .d (.int .i64), .d .bool])], [], 0, zlz⟩
def zl0 (x : T2 × (List Int) × Int × Bool) : Option ((Int)) := zoz x.1 x.2.1 x.2.2.1 x.2.2.2
theorem zxi : FnOK Try.prog zmb zl0 :=
 fn_ok zwn (h := .no) Try.func13 (z0d [] (by kernel_rfl) trivial) (by kernel_rfl) zu9 (fun x => by kernel_rfl)
def zzn : Env := ⟨[], [], []⟩
theorem zxp : EnvsOK Try.prog zzn := ⟨z0i _, z0e _, z0f _⟩
def zki : Shp := ⟨1, 0, [(0, .d (.int .i64))], []⟩
def zo4 : XS := .one .ret zki.xe
theorem zwi : zo4.OK := XS.one_ok (z0a zki)
def zpv (j : T2) (j2 : List Int) (j3 : Int) (j4 : Bool) : Option ((Int)) :=
 some j3
def znw : Sig := ⟨14, [.rf (.ag [.c .nilp, .d c4, .d (.sl (.int .u8)), .d (.int .i64), .d .bool])], [], 0, zo4⟩
def zlu (x : T2 × (List Int) × Int × Bool) : Option ((Int)) := zpv x.1 x.2.1 x.2.2.1 x.2.2.2
theorem zyt : FnOK Try.prog znw zlu :=
 fn_ok zxp (h := .no) Try.func14 (z0d [] (by kernel_rfl) trivial) (by kernel_rfl) zwi (fun x => by kernel_rfl)
def zz0 : Env := ⟨[], [], []⟩
theorem zwh : EnvsOK Try.prog zz0 := ⟨z0i _, z0e _, z0f _⟩
def zj5 : Shp := ⟨1, 0, [(0, .d (.int .i64))], []⟩
def zlo : XS := .one .ret zj5.xe
theorem zuj : zlo.OK := XS.one_ok (z0a zj5)
def z6z (d : T3) : Option ((Int)) :=
 z0j (List.length d.1) (
 some (List.length d.1 : Nat))
def zee : Sig := ⟨30, [.rf (.d c8)], [], 0, zlo⟩
def zd7 (x : T3) : Option ((Int)) := z6z x
theorem zkq : FnOK Try.prog zee zd7 :=
 fn_ok zwh (h := .no) Try.func30 (z0d [] (by kernel_rfl) trivial) (by kernel_rfl) zuj (fun x => by kernel_rfl)
def z14m : Env := ⟨[(entQ zee zd7)], [], []⟩
theorem z10u : EnvsOK Try.prog z14m := ⟨z0c (z0h zkq) (z0i _), z0e _, z0f _⟩
def znb : Shp := ⟨1, 0, [(0, .d (.int .i64))], []⟩
def zpw : XS := .one .ret znb.xe
theorem zzd : zpw.OK := XS.one_ok (z0a znb)
def z4g (d : T3) : Option ((Int)) :=
 (z6z d).bind fun r =>
 some (W64 (Int.tdiv (W64 (r - 2)) 2))
def z5t : Sig := ⟨31, [.rf (.d c8)], [], 0, zpw⟩
def z4s (x : T3) : Option ((Int)) := z4g x
theorem z6v : FnOK Try.prog z5t z4s :=
 fn_ok z10u (h := .no) Try.func31 (z0d [] (by kernel_rfl) trivial) (by kernel_rfl) zzd (fun x => by kernel_rfl)
def z10x : Env := ⟨[], [], []⟩
theorem zxj : EnvsOK Try.prog z10x := ⟨z0i _, z0e _, z0f _⟩
def zl4 : Shp := ⟨1, 0, [(0, .d .bool)], []⟩
def zne : XS := .one .ret zl4.xe
theorem zx2 : zne.OK := XS.one_ok (z0a zl4)
def z5r (d : T3) : Option ((Bool)) :=
 some d.2.2.2.2.2
def zbd : Sig := ⟨39, [.rf (.d c8)], [], 0, zne⟩
def zaf (x : T3) : Option ((Bool)) := z5r x
theorem zeh : FnOK Try.prog zbd zaf :=
 fn_ok zxj (h := .no) Try.func39 (z0d [] (by kernel_rfl) trivial) (by kernel_rfl) zx2 (fun x => by kernel_rfl)
def z10i : Env := ⟨[(entQ zbd zaf)], [], []⟩
theorem zxn : EnvsOK Try.prog z10i := ⟨z0c (z0h zeh) (z0i _), z0e _, z0f _⟩
def zkj : Shp := ⟨1, 0, [(0, .d (.int .i64))], []⟩
def znr : XS := .one .ret zkj.xe
theorem zw6 : znr.OK := XS.one_ok (z0a zkj)
def z7q (d : T3) (i : Int) : Option ((Int)) :=
 (z5r d).bind fun r =>
 bif r then
 some 6
 else
 bif ltI i 0 then
 some 2
 else
 z0j (List.length d.1) (
 bif leI (List.length d.1 : Nat) i then
 some 2
 else
 some 0)
def zb5 : Sig := ⟨51, [.rf (.d c8), .d (.int .i64)], [], 0, znr⟩
def zad (x : T3 × Int) : Option ((Int)) := z7q x.1 x.2
theorem ze3 : FnOK Try.prog zb5 zad :=
 fn_ok zxn (h := .no) Try.func51 (z0d [] (by kernel_rfl) trivial) (by kernel_rfl) zw6 (fun x => by kernel_rfl)
def z1fi : Env := ⟨[], [], []⟩
theorem z1b2 : EnvsOK Try.prog z1fi := ⟨z0i _, z0e _, z0f _⟩
def zxx : Shp := ⟨1, 0, [(0, .fs c9)], []⟩
def z14a : XS := .one .ret zxx.xe
theorem z1at : z14a.OK := XS.one_ok (z0a zxx)
def zm2 (t0 : List T0) : Option (((List T0))) :=
 z0j (List.length t0) (
 z0j (List.length t0) (
 bif subOk 0 (List.length t0 : Nat) (List.length t0) && eqI (List.length t0 : Nat) (List.length t0 : Nat) then
 some (subL t0 0 (List.length t0 : Nat))
 else none))
def zt2 : Sig := ⟨71, [.d c2], [], 0, z14a⟩
def zr0 (x : (List T0)) : Option (((List T0))) := zm2 x
theorem z11i : FnOK Try.prog zt2 zr0 :=
 fn_ok z1b2 (h := .no) Try.func71 (z0d [] (by kernel_rfl) trivial) (by kernel_rfl) z1at (fun x => by kernel_rfl)
def zyu : Env := ⟨[(entQ zb5 zad)], [], []⟩
theorem zjy : EnvsOK Try.prog zyu := ⟨z0c (z0h ze3) (z0i _), z0e _, z0f _⟩
def zar : Shp := ⟨40, 1, [(7, .pt 1 (.one (.arr 256 .leaf)) [])], [.var 71 (.ag [.wn 2 c1, .d c2, .d (.int .i64), .d c3, .d (.int .i64), .d .bool]), .var 86 (.d c1), .row 86 c1]⟩
def z2j : XS := .one (.exit 0) zar.xe
theorem zi7 : z2j.OK := XS.one_ok (z0a zar)
def z2c : Shp := ⟨40, 1, [(1, .d (.int .i64)), (7, .pt 1 (.one (.arr 256 .leaf)) []), (26, .d c2), (27, .d (.int .i64)), (28, .d (.int .i64))], [.var 71 (.ag [.wn 2 c1, .d c2, .d (.int .i64), .d c3, .d (.int .i64), .d .bool]), .var 86 (.d c1), .row 86 c1]⟩
abbrev z7i := Int × (List T0) × Int × Int × (List T0) × Int × T1 × Int × Bool × (List Int) × (List (List Int))
abbrev zbt := ((List T0) × Int × T1 × Int × Bool × (List Int) × (List (List Int)))
def z2d (i : Int) (t26 : List T0) (t27 : Int) (t28 : Int) (h : List T0) (h2 : Int) (h3 : T1) (h4 : Int) (h5 : Bool) (t7 : List Int) (h6 : List (List Int)) : Option (z7i ⊕ zbt) :=
 bif ltI t28 t27 then
 (idxI t26 t28).bind fun x =>
 bif eqI x.1 i then
 bif Nat.beq (List.length h6) (List.length h6) then
 some (.inl (i, t26, t27, W64 (t28 + 1), h, h2, h3, h4, h5, x.2, h6))
 else none
 else
 bif Nat.beq (List.length h6) (List.length h6) then
 some (.inl (i, t26, t27, W64 (t28 + 1), h, h2, h3, h4, h5, t7, h6))
 else none
 else
 bif Nat.beq (List.length h6) (List.length h6) then
 some (.inr (h, h2, h3, h4, h5, t7, h6))
 else none
def z0t (s : z7i) : Option (z7i ⊕ zbt) := z2d s.1 s.2.1 s.2.2.1 s.2.2.2.1 s.2.2.2.2.1 s.2.2.2.2.2.1 s.2.2.2.2.2.2.1 s.2.2.2.2.2.2.2.1 s.2.2.2.2.2.2.2.2.1 s.2.2.2.2.2.2.2.2.2.1 s.2.2.2.2.2.2.2.2.2.2
theorem zih : SoundD Try.prog (.loop (subC (bodyC Try.f28) [1, 1, 1, 0, 1, 0, 0])) (loopD z2c.xe z2j (loopC z0t)) :=
 z1c (S := z2c.xe) (X := z2j) zjy (h := .no) (z0d [] (by kernel_rfl) trivial) (z0a z2c) zi7 z0t (fun s => by kernel_rfl)
def zid : Shp := ⟨1, 1, [(0, .tu [.wn 1 (.int .u8), .d (.int .i64)])], [.var 71 (.ag [.wn 2 c1, .d c2, .d (.int .i64), .d c3, .d (.int .i64), .d .bool]), .row 86 (.int .u8), .row 86 c1]⟩
def zme : XS := .one .ret zid.xe
theorem zuo : zme.OK := XS.one_ok (z0a zid)
def z6u (i : Int) (d : List T0) (d2 : Int) (d3 : T1) (d4 : Int) (d5 : Bool) (d6 : List (List Int)) : Option ((Int × (List T0) × Int × T1 × Int × Bool × (List Int) × (List (List Int)))) :=
 winK d6 0 (List.length d6) fun w =>
 (z7q (w, d, d2, d3, d4, d5) i).bind fun r =>
 bif neI r 0 then
 bif Nat.beq 0 (List.length ([] : List Int)) then
 bif Nat.beq (List.length d6) (List.length d6) then
 some (r, d, d2, d3, d4, d5, ([] : List Int), d6)
 else none
 else none
 else
 bif inI i (List.length d6) then
 (d6[i.toNat]?).bind fun x =>
 z0j (List.length d) (
 bif Nat.beq (List.length d6) (List.length d6) then
 (loopC z0t (i, d, (List.length d : Nat), 0, d, d2, d3, d4, d5, x, d6)).bind fun o =>
 bif Nat.beq 256 (List.length o.2.2.2.2.2.1) then
 bif Nat.beq (List.length o.2.2.2.2.2.2) (List.length o.2.2.2.2.2.2) then
 some (0, o.1, o.2.1, o.2.2.1, o.2.2.2.1, o.2.2.2.2.1, o.2.2.2.2.2.1, o.2.2.2.2.2.2)
 else none
 else none
 else none)
 else none
def zm7 : Sig := ⟨28, [.pt 0 r0 [], .d (.int .i64)], [.var 71 (.ag [.wn 1 c1, .d c2, .d (.int .i64), .d c3, .d (.int .i64), .d .bool]), .row 86 c1], 1, zme⟩
def zl5 (x : Int × (List T0) × Int × T1 × Int × Bool × (List (List Int))) : Option ((Int × (List T0) × Int × T1 × Int × Bool × (List Int) × (List (List Int)))) := z6u x.1 x.2.1 x.2.2.1 x.2.2.2.1 x.2.2.2.2.1 x.2.2.2.2.2.1 x.2.2.2.2.2.2
theorem zxt : FnOK Try.prog zm7 zl5 :=
 fn_ok zjy (h := (.two .no (.two .no (.two .no (.two (.two .no (.over (loopD z2c.xe z2j (loopC z0t)))) .no))))) Try.func28 (z0d [.den (.loop (subC (bodyC Try.f28) [1, 1, 1, 0, 1, 0, 0])) (loopD z2c.xe z2j (loopC z0t))] (by kernel_rfl) ⟨zih, trivial⟩) (by kernel_rfl) zuo (fun x => by kernel_rfl)
def z1dk : Env := ⟨[], [], []⟩
theorem zwb : EnvsOK Try.prog z1dk := ⟨z0i _, z0e _, z0f _⟩
def zil : Shp := ⟨19, 0, [], []⟩
def zjr : Shp := ⟨19, 0, [(4, .d (.int .i64))], []⟩
def z8b : XS := .or (.exit 0) zil.xe (.one .ret zjr.xe)
theorem zup : z8b.OK := XS.or_ok (z0a zil) (XS.one_ok (z0a zjr))
def z8d : Shp := ⟨19, 0, [(0, .d (.sl (.int .i64))), (1, .d (.int .i64)), (7, .d (.int .i64)), (8, .d (.int .i64))], []⟩
abbrev zec := (List Int) × Int × Int × Int
abbrev zmg := (Unit) ⊕ (Int)
def zag (t0 : List Int) (v : Int) (t7 : Int) (t8 : Int) : Option (zec ⊕ zmg) :=
 bif ltI t8 t7 then
 (idxI t0 t8).bind fun x =>
 bif eqI v x then
 some (.inr (.inr t8))
 else
 some (.inl (t0, v, t7, W64 (t8 + 1)))
 else
 some (.inr (.inl ()))
def z2n (s : zec) : Option (zec ⊕ zmg) := zag s.1 s.2.1 s.2.2.1 s.2.2.2
theorem zws : SoundD Try.prog (.loop (subC (bodyC Try.f61) [1, 0, 1, 0, 0])) (loopD z8d.xe z8b (loopC z2n)) :=
 z1c (S := z8d.xe) (X := z8b) zwb (h := .no) (z0d [] (by kernel_rfl) trivial) (z0a z8d) zup z2n (fun s => by kernel_rfl)
def zvz : Shp := ⟨1, 0, [(0, .d (.int .i64))], []⟩
def z10e : XS := .one .ret zvz.xe
theorem z18f : z10e.OK := XS.one_ok (z0a zvz)
def zwt (t0 : List Int) (v : Int) : Option ((Int)) :=
 z0j (List.length t0) (
 (loopC z2n (t0, v, (List.length t0 : Nat), 0)).bind fun o =>
 Sum.elim (fun y =>
 some (-1)) (fun y2 =>
 some y2) o)
def z11m : Sig := ⟨61, [.d (.sl (.int .i64)), .d (.int .i64)], [], 0, z10e⟩
def zym (x : (List Int) × Int) : Option ((Int)) := zwt x.1 x.2
theorem z1b3 : FnOK Try.prog z11m zym :=
 fn_ok zwb (h := (.two .no (.two (.two .no (.over (loopD z8d.xe z8b (loopC z2n)))) .no))) Try.func61 (z0d [.den (.loop (subC (bodyC Try.f61) [1, 0, 1, 0, 0])) (loopD z8d.xe z8b (loopC z2n))] (by kernel_rfl) ⟨zws, trivial⟩) (by kernel_rfl) z18f (fun x => by kernel_rfl)
def z18d : Env := ⟨[(entQ z11m zym)], [], []⟩
theorem z14g : EnvsOK Try.prog z18d := ⟨z0c (z0h z1b3) (z0i _), z0e _, z0f _⟩
def zpz : Shp := ⟨1, 0, [(0, .d .bool)], []⟩
def ztc : XS := .one .ret zpz.xe
theorem z13k : ztc.OK := XS.one_ok (z0a zpz)
def zhs (t0 : List Int) (v : Int) : Option ((Bool)) :=
 (zwt t0 v).bind fun r =>
 some (leI 0 r)
def zte : Sig := ⟨40, [.d (.sl (.int .i64)), .d (.int .i64)], [], 0, ztc⟩
def zs8 (x : (List Int) × Int) : Option ((Bool)) := zhs x.1 x.2
theorem z15b : FnOK Try.prog zte zs8 :=
 fn_ok z14g (h := .no) Try.func40 (z0d [] (by kernel_rfl) trivial) (by kernel_rfl) z13k (fun x => by kernel_rfl)
def z11h : Env := ⟨[(entQ zbd zaf), (entQ zte zs8)], [], []⟩
theorem zkk : EnvsOK Try.prog z11h := ⟨z0c (z0h zeh) (z0c (z0h z15b) (z0i _)), z0e _, z0f _⟩
def z7d : Shp := ⟨53, 1, [(0, .pt 0 r0 []), (3, .pt 1 r7 []), (5, .pt 2 r10 []), (6, .d (.int .i64)), (12, .d c2), (13, .d (.int .i64)), (14, .d (.int .i64))], [.var 71 (.ag [.wn 3 c1, .d c2, .d (.int .i64), .d c3, .d (.int .i64), .d .bool]), .var 38 (.d c3), .var 88 (.d c9), .row 86 c1]⟩
def z4a : XS := .one .normal z7d.xe
theorem zcv : z4a.OK := XS.one_ok (z0a z7d)
def zc4 : Shp := ⟨53, 1, [(0, .pt 0 r0 [])], [.var 71 (.ag [.wn 1 c1, .d c2, .d (.int .i64), .d c3, .d (.int .i64), .d .bool]), .row 86 c1]⟩
def z3i : XS := .one (.exit 0) zc4.xe
theorem zlh : z3i.OK := XS.one_ok (z0a zc4)
def z3d : Shp := ⟨53, 1, [(0, .pt 0 r0 []), (3, .pt 1 r7 []), (12, .d c2), (13, .d (.int .i64)), (14, .d (.int .i64))], [.var 71 (.ag [.wn 2 c1, .d c2, .d (.int .i64), .d c3, .d (.int .i64), .d .bool]), .var 38 (.d c3), .row 86 c1]⟩
abbrev z8z := (List T0) × Int × Int × (List T0) × Int × T1 × Int × Bool × T1 × (List (List Int))
abbrev zcx := ((List T0) × Int × T1 × Int × Bool × (List (List Int)))
def z3c (t12 : List T0) (t13 : Int) (t14 : Int) (d : List T0) (d2 : Int) (d3 : T1) (d4 : Int) (d5 : Bool) (c : T1) (d6 : List (List Int)) : Option (z8z ⊕ zcx) :=
 bif ltI t14 t13 then
 (idxI t12 t14).bind fun x =>
 (show Option ((Int × (List T0) × Int × Int × (List T0) × Int × T1 × Int × Bool × T1 × T0 × (List (List Int)))) from
 (zhs c.1 t14).bind fun r =>
 bif r then
 bif Nat.beq (List.length d6) (List.length d6) then
 some (256, t12, t13, t14, d, d2, d3, d4, d5, c, x, d6)
 else none
 else
 bif eqI c.2.1 t14 then
 bif Nat.beq (List.length d6) (List.length d6) then
 some (maxI 0 (minI c.2.2 256), t12, t13, t14, d, d2, d3, d4, d5, c, x, d6)
 else none
 else
 bif Nat.beq (List.length d6) (List.length d6) then
 some (0, t12, t13, t14, d, d2, d3, d4, d5, c, x, d6)
 else none).bind fun j =>
 bif inI j.2.2.2.2.2.2.2.2.2.2.1.1 (List.length j.2.2.2.2.2.2.2.2.2.2.2) then
 (j.2.2.2.2.2.2.2.2.2.2.2[j.2.2.2.2.2.2.2.2.2.2.1.1.toNat]?).bind fun x2 =>
 bif subOk 0 j.1 256 then
 winK j.2.2.2.2.2.2.2.2.2.2.1.2 0 256 fun w =>
 (j.2.2.2.2.2.2.2.2.2.2.2[j.2.2.2.2.2.2.2.2.2.2.1.1.toNat]?).bind fun x3 =>
 bif Nat.ble j.1.toNat (List.length x3) then
 (j.2.2.2.2.2.2.2.2.2.2.2[j.2.2.2.2.2.2.2.2.2.2.1.1.toNat]?).bind fun _x =>
 bif Nat.beq (List.length j.2.2.2.2.2.2.2.2.2.2.2) (List.length (j.2.2.2.2.2.2.2.2.2.2.2.set j.2.2.2.2.2.2.2.2.2.2.1.1.toNat (cpyL x3 0 j.1.toNat w))) then
 some (.inl (j.2.1, j.2.2.1, W64 (j.2.2.2.1 + 1), j.2.2.2.2.1, j.2.2.2.2.2.1, j.2.2.2.2.2.2.1, j.2.2.2.2.2.2.2.1, j.2.2.2.2.2.2.2.2.1, j.2.2.2.2.2.2.2.2.2.1, j.2.2.2.2.2.2.2.2.2.2.2.set j.2.2.2.2.2.2.2.2.2.2.1.1.toNat (cpyL x3 0 j.1.toNat w)))
 else none
 else none
 else none
 else none
 else
 bif Nat.beq (List.length d6) (List.length d6) then
 some (.inr (d, d2, d3, d4, d5, d6))
 else none
def z0w (s : z8z) : Option (z8z ⊕ zcx) := z3c s.1 s.2.1 s.2.2.1 s.2.2.2.1 s.2.2.2.2.1 s.2.2.2.2.2.1 s.2.2.2.2.2.2.1 s.2.2.2.2.2.2.2.1 s.2.2.2.2.2.2.2.2.1 s.2.2.2.2.2.2.2.2.2
theorem zlt : SoundD Try.prog (.loop (subC (bodyC Try.f17) [1, 1, 0, 1, 0, 0])) (loopD z3d.xe z3i (loopC z0w)) :=
 z1c (S := z3d.xe) (X := z3i) zkk (h := (.two .no (.two .no (.two (.two .no (.two .no (.join (fun _ => z4a) .no (.reg [] [11, 0])))) .no)))) (z0d [.xs (fun _ => z4a)] (by kernel_rfl) ⟨(z4b zcv), trivial⟩) (z0a z3d) zlh z0w (fun s => by kernel_rfl)
def zl6 : Shp := ⟨1, 1, [(0, .tu [])], [.var 71 (.ag [.wn 1 c1, .d c2, .d (.int .i64), .d c3, .d (.int .i64), .d .bool]), .row 86 c1]⟩
def znm : XS := .one .ret zl6.xe
theorem zw3 : znm.OK := XS.one_ok (z0a zl6)
def z2x (c : T1) (d : List T0) (d2 : Int) (d3 : T1) (d4 : Int) (d5 : Bool) (d6 : List (List Int)) : Option (((List T0) × Int × T1 × Int × Bool × (List (List Int)))) :=
 winK d6 0 (List.length d6) fun w =>
 (z5r (w, d, d2, d3, d4, d5)).bind fun r =>
 bif r then
 bif Nat.beq (List.length d6) (List.length d6) then
 some (d, d2, d3, d4, d5, d6)
 else none
 else
 z0j (List.length d) (
 bif Nat.beq (List.length d6) (List.length d6) then
 (loopC z0w (d, (List.length d : Nat), 0, d, d2, d3, d4, d5, c, d6)).bind fun o =>
 bif Nat.beq (List.length o.2.2.2.2.2) (List.length o.2.2.2.2.2) then
 some ([], (-1), o.2.2.1, o.2.2.2.1, true, o.2.2.2.2.2)
 else none
 else none)
def zfa : Sig := ⟨17, [.pt 0 r0 [], .d c3], [.var 71 (.ag [.wn 1 c1, .d c2, .d (.int .i64), .d c3, .d (.int .i64), .d .bool]), .row 86 c1], 1, znm⟩
def zeb (x : T1 × (List T0) × Int × T1 × Int × Bool × (List (List Int))) : Option (((List T0) × Int × T1 × Int × Bool × (List (List Int)))) := z2x x.1 x.2.1 x.2.2.1 x.2.2.2.1 x.2.2.2.2.1 x.2.2.2.2.2.1 x.2.2.2.2.2.2
theorem zm0 : FnOK Try.prog zfa zeb :=
 fn_ok zkk (h := (.two .no (.two .no (.two (.two .no (.over (loopD z3d.xe z3i (loopC z0w)))) .no)))) Try.func17 (z0d [.den (.loop (subC (bodyC Try.f17) [1, 1, 0, 1, 0, 0])) (loopD z3d.xe z3i (loopC z0w))] (by kernel_rfl) ⟨zlt, trivial⟩) (by kernel_rfl) zw3 (fun x => by kernel_rfl)
def zx3 : Env := ⟨[], [(entP zfa zeb)], []⟩
theorem zt9 : EnvsOK Try.prog zx3 := ⟨z0i _, z0k (z0o zm0) (z0e _), z0f _⟩
def zgo : Shp := ⟨1, 1, [(0, .d (.int .i64))], [.var 71 (.ag [.wn 1 c1, .d c2, .d (.int .i64), .d c3, .d (.int .i64), .d .bool]), .row 86 c1]⟩
def zjm : XS := .one .ret zgo.xe
theorem zsf : zjm.OK := XS.one_ok (z0a zgo)
def z5j (d : List T0) (d2 : Int) (d3 : T1) (d4 : Int) (d5 : Bool) (d6 : List (List Int)) : Option ((Int × (List T0) × Int × T1 × Int × Bool × (List (List Int)))) :=
 bif ltI d2 0 then
 bif Nat.beq (List.length d6) (List.length d6) then
 some (0, d, d2, d3, W64 (d4 + 1), d5, d6)
 else none
 else
 bif ltI (W64 (d2 - 1)) 0 then
 bif Nat.beq (List.length d6) (List.length d6) then
 (z2x d3 d (W64 (d2 - 1)) d3 (W64 (d4 + 1)) d5 d6).bind fun r =>
 bif Nat.beq (List.length r.2.2.2.2.2) (List.length r.2.2.2.2.2) then
 some (6, r.1, r.2.1, r.2.2.1, r.2.2.2.1, r.2.2.2.2.1, r.2.2.2.2.2)
 else none
 else none
 else
 bif Nat.beq (List.length d6) (List.length d6) then
 some (0, d, W64 (d2 - 1), d3, W64 (d4 + 1), d5, d6)
 else none
def z9u : Sig := ⟨72, [.pt 0 r0 []], [.var 71 (.ag [.wn 1 c1, .d c2, .d (.int .i64), .d c3, .d (.int .i64), .d .bool]), .row 86 c1], 1, zjm⟩
def z8w (x : (List T0) × Int × T1 × Int × Bool × (List (List Int))) : Option ((Int × (List T0) × Int × T1 × Int × Bool × (List (List Int)))) := z5j x.1 x.2.1 x.2.2.1 x.2.2.2.1 x.2.2.2.2.1 x.2.2.2.2.2
theorem zc0 : FnOK Try.prog z9u z8w :=
 fn_ok zt9 (h := .no) Try.func72 (z0d [] (by kernel_rfl) trivial) (by kernel_rfl) zsf (fun x => by kernel_rfl)
def zxk : Env := ⟨[(entQ zb5 zad), (entQ zt2 zr0)], [(entP z9u z8w)], []⟩
theorem zuk : EnvsOK Try.prog zxk := ⟨z0c (z0h ze3) (z0c (z0h z11i) (z0i _)), z0k (z0o zc0) (z0e _), z0f _⟩
def zi3 : Shp := ⟨1, 1, [(0, .d (.int .i64))], [.var 71 (.ag [.wn 1 c1, .d c2, .d (.int .i64), .d c3, .d (.int .i64), .d .bool]), .row 86 c1]⟩
def zl7 : XS := .one .ret zi3.xe
theorem zsj : zl7.OK := XS.one_ok (z0a zi3)
def z8u (i : Int) (b : List Int) (d : List T0) (d2 : Int) (d3 : T1) (d4 : Int) (d5 : Bool) (d6 : List (List Int)) : Option ((Int × (List T0) × Int × T1 × Int × Bool × (List (List Int)))) :=
 winK d6 0 (List.length d6) fun w =>
 (z7q (w, d, d2, d3, d4, d5) i).bind fun r =>
 bif neI r 0 then
 bif Nat.beq (List.length d6) (List.length d6) then
 some (r, d, d2, d3, d4, d5, d6)
 else none
 else
 z0j (List.length b) (
 bif neI (List.length b : Nat) 256 then
 bif Nat.beq (List.length d6) (List.length d6) then
 some (1, d, d2, d3, d4, d5, d6)
 else none
 else
 bif Nat.ble 256 (List.length (List.replicate 256 (0 : Int))) then
 (zm2 d).bind fun r2 =>
 appG (List.length r2) (List.length (([(i, cpyL (List.replicate 256 (0 : Int)) 0 256 b)] : List T0))) 264 fun _ =>
 bif Nat.beq (List.length d6) (List.length d6) then
 (z5j (r2 ++ (([(i, cpyL (List.replicate 256 (0 : Int)) 0 256 b)] : List T0))) d2 d3 d4 d5 d6).bind fun r3 =>
 bif Nat.beq (List.length r3.2.2.2.2.2.2) (List.length r3.2.2.2.2.2.2) then
 some (r3.1, r3.2.1, r3.2.2.1, r3.2.2.2.1, r3.2.2.2.2.1, r3.2.2.2.2.2.1, r3.2.2.2.2.2.2)
 else none
 else none
 else none)
def zd6 : Sig := ⟨53, [.pt 0 r0 [], .d (.int .i64), .d (.sl (.int .u8))], [.var 71 (.ag [.wn 1 c1, .d c2, .d (.int .i64), .d c3, .d (.int .i64), .d .bool]), .row 86 c1], 1, zl7⟩
def zcc (x : Int × (List Int) × (List T0) × Int × T1 × Int × Bool × (List (List Int))) : Option ((Int × (List T0) × Int × T1 × Int × Bool × (List (List Int)))) := z8u x.1 x.2.1 x.2.2.1 x.2.2.2.1 x.2.2.2.2.1 x.2.2.2.2.2.1 x.2.2.2.2.2.2.1 x.2.2.2.2.2.2.2
theorem zjd : FnOK Try.prog zd6 zcc :=
 fn_ok zuk (h := .no) Try.func53 (z0d [] (by kernel_rfl) trivial) (by kernel_rfl) zsj (fun x => by kernel_rfl)
def zu2 : Env := ⟨[(entQ zbd zaf)], [(entP z9u z8w)], []⟩
theorem zfs : EnvsOK Try.prog zu2 := ⟨z0c (z0h zeh) (z0i _), z0k (z0o zc0) (z0e _), z0f _⟩
def z9z : Shp := ⟨35, 1, [(0, .pt 0 r0 [])], [.var 71 (.ag [.wn 1 c1, .d c2, .d (.int .i64), .d c3, .d (.int .i64), .d .bool]), .row 86 c1]⟩
def z1t : XS := .one (.exit 0) z9z.xe
theorem zge : z1t.OK := XS.one_ok (z0a z9z)
def z1r : Shp := ⟨35, 1, [(0, .pt 0 r0 []), (16, .d c2), (17, .d (.int .i64)), (18, .d (.int .i64))], [.var 71 (.ag [.wn 1 c1, .d c2, .d (.int .i64), .d c3, .d (.int .i64), .d .bool]), .row 86 c1]⟩
abbrev z6i := (List T0) × Int × Int × (List T0) × Int × T1 × Int × Bool × (List (List Int))
abbrev zab := ((List T0) × Int × T1 × Int × Bool × (List (List Int)))
def z1p (t16 : List T0) (t17 : Int) (t18 : Int) (d : List T0) (d2 : Int) (d3 : T1) (d4 : Int) (d5 : Bool) (d6 : List (List Int)) : Option (z6i ⊕ zab) :=
 bif ltI t18 t17 then
 (idxI t16 t18).bind fun x =>
 bif inI x.1 (List.length d6) then
 (d6[x.1.toNat]?).bind fun _x =>
 bif Nat.beq (List.length d6) (List.length (d6.set x.1.toNat x.2)) then
 some (.inl (t16, t17, W64 (t18 + 1), d, d2, d3, d4, d5, d6.set x.1.toNat x.2))
 else none
 else none
 else
 bif Nat.beq (List.length d6) (List.length d6) then
 some (.inr (d, d2, d3, d4, d5, d6))
 else none
def z0r (s : z6i) : Option (z6i ⊕ zab) := z1p s.1 s.2.1 s.2.2.1 s.2.2.2.1 s.2.2.2.2.1 s.2.2.2.2.2.1 s.2.2.2.2.2.2.1 s.2.2.2.2.2.2.2.1 s.2.2.2.2.2.2.2.2
theorem zgw : SoundD Try.prog (.loop (subC (bodyC Try.f55) [1, 1, 1, 0, 1, 0, 0])) (loopD z1r.xe z1t (loopC z0r)) :=
 z1c (S := z1r.xe) (X := z1t) zfs (h := .no) (z0d [] (by kernel_rfl) trivial) (z0a z1r) zge z0r (fun s => by kernel_rfl)
def zg2 : Shp := ⟨1, 1, [(0, .d (.int .i64))], [.var 71 (.ag [.wn 1 c1, .d c2, .d (.int .i64), .d c3, .d (.int .i64), .d .bool]), .row 86 c1]⟩
def zhw : XS := .one .ret zg2.xe
theorem zqz : zhw.OK := XS.one_ok (z0a zg2)
def z4q (d : List T0) (d2 : Int) (d3 : T1) (d4 : Int) (d5 : Bool) (d6 : List (List Int)) : Option ((Int × (List T0) × Int × T1 × Int × Bool × (List (List Int)))) :=
 winK d6 0 (List.length d6) fun w =>
 (z5r (w, d, d2, d3, d4, d5)).bind fun r =>
 bif r then
 bif Nat.beq (List.length d6) (List.length d6) then
 some (6, d, d2, d3, d4, d5, d6)
 else none
 else
 bif Nat.beq (List.length d6) (List.length d6) then
 (z5j d d2 d3 d4 d5 d6).bind fun r2 =>
 bif neI r2.1 0 then
 bif Nat.beq (List.length r2.2.2.2.2.2.2) (List.length r2.2.2.2.2.2.2) then
 some (r2.1, r2.2.1, r2.2.2.1, r2.2.2.2.1, r2.2.2.2.2.1, r2.2.2.2.2.2.1, r2.2.2.2.2.2.2)
 else none
 else
 z0j (List.length r2.2.1) (
 bif Nat.beq (List.length r2.2.2.2.2.2.2) (List.length r2.2.2.2.2.2.2) then
 (loopC z0r (r2.2.1, (List.length r2.2.1 : Nat), 0, r2.2.1, r2.2.2.1, r2.2.2.2.1, r2.2.2.2.2.1, r2.2.2.2.2.2.1, r2.2.2.2.2.2.2)).bind fun o =>
 bif Nat.beq (List.length o.2.2.2.2.2) (List.length o.2.2.2.2.2) then
 some (0, [], o.2.1, o.2.2.1, o.2.2.2.1, o.2.2.2.2.1, o.2.2.2.2.2)
 else none
 else none)
 else none
def z8x : Sig := ⟨55, [.pt 0 r0 []], [.var 71 (.ag [.wn 1 c1, .d c2, .d (.int .i64), .d c3, .d (.int .i64), .d .bool]), .row 86 c1], 1, zhw⟩
def z8j (x : (List T0) × Int × T1 × Int × Bool × (List (List Int))) : Option ((Int × (List T0) × Int × T1 × Int × Bool × (List (List Int)))) := z4q x.1 x.2.1 x.2.2.1 x.2.2.2.1 x.2.2.2.2.1 x.2.2.2.2.2
theorem zbh : FnOK Try.prog z8x z8j :=
 fn_ok zfs (h := (.two .no (.two .no (.two .no (.two (.two .no (.over (loopD z1r.xe z1t (loopC z0r)))) .no))))) Try.func55 (z0d [.den (.loop (subC (bodyC Try.f55) [1, 1, 1, 0, 1, 0, 0])) (loopD z1r.xe z1t (loopC z0r))] (by kernel_rfl) ⟨zgw, trivial⟩) (by kernel_rfl) zqz (fun x => by kernel_rfl)
def zv8 : Env := ⟨[(entQ z3t z3b)], [(entP zd6 zcc), (entP z8x z8j)], []⟩
theorem zso : EnvsOK Try.prog zv8 := ⟨z0c (z0h z5h) (z0i _), z0k (z0o zjd) (z0k (z0o zbh) (z0e _)), z0f _⟩
def zer : Shp := ⟨34, 2, [(0, .pt 0 r6 []), (3, .pt 2 r7 []), (5, .d (.int .i64))], [.var 75 (.ag [.pt 1 r0 [], .d c4, .wn 3 (.int .u8), .d (.int .i64), .d .bool]), .var 71 (.ag [.wn 4 c1, .d c2, .d (.int .i64), .d c3, .d (.int .i64), .d .bool]), .var 73 (.d c4), .row 5 (.int .u8), .row 86 c1]⟩
def zam : XS := .one .normal zer.xe
theorem zor : zam.OK := XS.one_ok (z0a zer)
def zgt : Shp := ⟨1, 2, [(0, .d (.int .i64))], [.var 75 (.ag [.pt 1 r0 [], .d c4, .d (.sl (.int .u8)), .d (.int .i64), .d .bool]), .var 71 (.ag [.wn 2 c1, .d c2, .d (.int .i64), .d c3, .d (.int .i64), .d .bool]), .row 86 c1]⟩
def ziv : XS := .one .ret zgt.xe
theorem zs1 : ziv.OK := XS.one_ok (z0a zgt)
def zah (t : T2) (j : T2) (j2 : Int) (j3 : Bool) (j4 : List T0) (j5 : Int) (j6 : T1) (j7 : Int) (j8 : Bool) (j9 : List Int) (j10 : List (List Int)) : Option ((Int × T2 × (List Int) × Int × Bool × (List T0) × Int × T1 × Int × Bool × (List (List Int)))) :=
 (z1o t).bind fun r =>
 bif Nat.beq (List.length j10) (List.length j10) then
 (z8u (W64 (Int.tmod t.1 2)) r j4 j5 j6 j7 j8 j10).bind fun r2 =>
 (show Option ((Int × T2 × Int × Bool × (List T0) × Int × T1 × Int × Bool × T2 × (List Int) × (List (List Int)))) from
 bif eqI r2.1 0 then
 bif Nat.beq (List.length r2.2.2.2.2.2.2) (List.length r2.2.2.2.2.2.2) then
 (z4q r2.2.1 r2.2.2.1 r2.2.2.2.1 r2.2.2.2.2.1 r2.2.2.2.2.2.1 r2.2.2.2.2.2.2).bind fun r3 =>
 bif Nat.beq (List.length j9) (List.length j9) then
 bif Nat.beq (List.length r3.2.2.2.2.2.2) (List.length r3.2.2.2.2.2.2) then
 some (r3.1, j, j2, j3, r3.2.1, r3.2.2.1, r3.2.2.2.1, r3.2.2.2.2.1, r3.2.2.2.2.2.1, t, j9, r3.2.2.2.2.2.2)
 else none
 else none
 else none
 else
 bif Nat.beq (List.length j9) (List.length j9) then
 bif Nat.beq (List.length r2.2.2.2.2.2.2) (List.length r2.2.2.2.2.2.2) then
 some (r2.1, j, j2, j3, r2.2.1, r2.2.2.1, r2.2.2.2.1, r2.2.2.2.2.1, r2.2.2.2.2.2.1, t, j9, r2.2.2.2.2.2.2)
 else none
 else none).bind fun j11 =>
 bif neI j11.1 0 then
 winK j11.2.2.2.2.2.2.2.2.2.2.1 0 (List.length j11.2.2.2.2.2.2.2.2.2.2.1) fun w =>
 bif Nat.beq (List.length j11.2.2.2.2.2.2.2.2.2.2.2) (List.length j11.2.2.2.2.2.2.2.2.2.2.2) then
 some (j11.1, j11.2.1, w, j11.2.2.1, true, j11.2.2.2.2.1, j11.2.2.2.2.2.1, j11.2.2.2.2.2.2.1, j11.2.2.2.2.2.2.2.1, j11.2.2.2.2.2.2.2.2.1, j11.2.2.2.2.2.2.2.2.2.2.2)
 else none
 else
 winK j11.2.2.2.2.2.2.2.2.2.2.1 0 (List.length j11.2.2.2.2.2.2.2.2.2.2.1) fun w2 =>
 bif Nat.beq (List.length j11.2.2.2.2.2.2.2.2.2.2.2) (List.length j11.2.2.2.2.2.2.2.2.2.2.2) then
 some (0, j11.2.2.2.2.2.2.2.2.2.1, w2, j11.2.2.1, j11.2.2.2.1, j11.2.2.2.2.1, j11.2.2.2.2.2.1, j11.2.2.2.2.2.2.1, j11.2.2.2.2.2.2.2.1, j11.2.2.2.2.2.2.2.2.1, j11.2.2.2.2.2.2.2.2.2.2.2)
 else none
 else none
def zk2 : Sig := ⟨33, [.pt 0 r6 [], .d c4], [.var 75 (.ag [.pt 1 r0 [], .d c4, .wn 2 (.int .u8), .d (.int .i64), .d .bool]), .var 71 (.ag [.wn 3 c1, .d c2, .d (.int .i64), .d c3, .d (.int .i64), .d .bool]), .row 5 (.int .u8), .row 86 c1], 2, ziv⟩
def zhv (x : T2 × T2 × Int × Bool × (List T0) × Int × T1 × Int × Bool × (List Int) × (List (List Int))) : Option ((Int × T2 × (List Int) × Int × Bool × (List T0) × Int × T1 × Int × Bool × (List (List Int)))) := zah x.1 x.2.1 x.2.2.1 x.2.2.2.1 x.2.2.2.2.1 x.2.2.2.2.2.1 x.2.2.2.2.2.2.1 x.2.2.2.2.2.2.2.1 x.2.2.2.2.2.2.2.2.1 x.2.2.2.2.2.2.2.2.2.1 x.2.2.2.2.2.2.2.2.2.2
theorem zul : FnOK Try.prog zk2 zhv :=
 fn_ok zso (h := (.two .no (.two (.reg [] [10, 0, 1]) (.join (fun _ => zam) .no .no)))) Try.func33 (z0d [.xs (fun _ => zam)] (by kernel_rfl) ⟨(z4b zor), trivial⟩) (by kernel_rfl) zs1 (fun x => by kernel_rfl)
def zz2 : Env := ⟨[(entQ z5t z4s)], [], []⟩
theorem zwe : EnvsOK Try.prog zz2 := ⟨z0c (z0h z6v) (z0i _), z0e _, z0f _⟩
def zjw : Shp := ⟨1, 0, [(0, .d (.int .i64))], []⟩
def zlx : XS := .one .ret zjw.xe
theorem ztv : zlx.OK := XS.one_ok (z0a zjw)
def z9b (j : T3) (j2 : T2) (j3 : List Int) (j4 : Int) (j5 : Bool) (side : Int) (i : Int) : Option ((Int)) :=
 (z4g j).bind fun r =>
 some (W64 ((W64 (2 + (W64 (side * r)))) + i))
def ze2 : Sig := ⟨34, [.rf (.ag [.rf (.d c8), .d c4, .d (.sl (.int .u8)), .d (.int .i64), .d .bool]), .d (.int .i64), .d (.int .i64)], [], 0, zlx⟩
def zcz (x : T3 × T2 × (List Int) × Int × Bool × Int × Int) : Option ((Int)) := z9b x.1 x.2.1 x.2.2.1 x.2.2.2.1 x.2.2.2.2.1 x.2.2.2.2.2.1 x.2.2.2.2.2.2
theorem zkr : FnOK Try.prog ze2 zcz :=
 fn_ok zwe (h := .no) Try.func34 (z0d [] (by kernel_rfl) trivial) (by kernel_rfl) ztv (fun x => by kernel_rfl)
def z1ai : Env := ⟨[(entQ zee zd7), (entQ z5t z4s), (entQ zp4 zmt), (entQ ze2 zcz)], [(entP zm7 zl5), (entP zk2 zhv), (entP zn8 zle)], []⟩
theorem zib : EnvsOK Try.prog z1ai := ⟨z0c (z0h zkq) (z0c (z0h z6v) (z0c (z0h zwu) (z0c (z0h zkr) (z0i _)))), z0k (z0o zxt) (z0k (z0o zul) (z0k (z0o zti) (z0e _))), z0f _⟩
def zcq : Shp := ⟨138, 1, [(0, .pt 0 r0 []), (5, .pt 1 r6 [])], [.var 71 (.ag [.wn 2 c1, .d c2, .d (.int .i64), .d c3, .d (.int .i64), .d .bool]), .var 75 (.ag [.pt 0 r0 [], .d c4, .wn 3 (.int .u8), .d (.int .i64), .d .bool]), .row 86 c1, .row 5 (.int .u8)]⟩
def zco : Shp := ⟨138, 1, [(2, .c .nilp), (3, .d c5), (4, .d (.int .i64))], [.var 71 (.ag [.wn 1 c1, .d c2, .d (.int .i64), .d c3, .d (.int .i64), .d .bool]), .row 86 c1]⟩
def z3x : XS := .or (.exit 0) zcq.xe (.one .ret zco.xe)
theorem zls : z3x.OK := XS.or_ok (z0a zcq) (XS.one_ok (z0a zco))
def z3u : Shp := ⟨138, 1, [(0, .pt 0 r0 []), (5, .pt 1 r6 []), (6, .d (.int .i64)), (26, .d (.int .i64))], [.var 71 (.ag [.wn 2 c1, .d c2, .d (.int .i64), .d c3, .d (.int .i64), .d .bool]), .var 75 (.ag [.pt 0 r0 [], .d c4, .wn 3 (.int .u8), .d (.int .i64), .d .bool]), .row 86 c1, .row 5 (.int .u8)]⟩
abbrev z9m := Int × Int × (List T0) × Int × T1 × Int × Bool × T2 × Int × Bool × (List (List Int)) × (List Int)
abbrev zdn := ((List T0) × Int × T1 × Int × Bool × T2 × Int × Bool × (List (List Int)) × (List Int)) ⊕ ((List (List Int)) × Int × (List T0) × Int × T1 × Int × Bool × (List (List Int)))
def z3v (room : Int) (t26 : Int) (d : List T0) (d2 : Int) (d3 : T1) (d4 : Int) (d5 : Bool) (j : T2) (j2 : Int) (j3 : Bool) (d6 : List (List Int)) (j4 : List Int) : Option (z9m ⊕ zdn) :=
 bif ltI t26 2 then
 bif Nat.beq (List.length d6) (List.length d6) then
 (z6u t26 d d2 d3 d4 d5 d6).bind fun r =>
 bif neI r.1 0 then
 bif Nat.beq (List.length r.2.2.2.2.2.2.2) (List.length r.2.2.2.2.2.2.2) then
 some (.inr (.inr ([], r.1, r.2.1, r.2.2.1, r.2.2.2.1, r.2.2.2.2.1, r.2.2.2.2.2.1, r.2.2.2.2.2.2.2)))
 else none
 else
 winK r.2.2.2.2.2.2.1 0 (List.length r.2.2.2.2.2.2.1) fun w =>
 (zgx w room).bind fun r2 =>
 bif ltI j.1 r2.1 then
 bif Nat.beq (List.length r.2.2.2.2.2.2.2) (List.length r.2.2.2.2.2.2.2) then
 bif Nat.beq (List.length j4) (List.length j4) then
 some (.inl (room, W64 (t26 + 1), r.2.1, r.2.2.1, r.2.2.2.1, r.2.2.2.2.1, r.2.2.2.2.2.1, r2, j2, j3, r.2.2.2.2.2.2.2, j4))
 else none
 else none
 else
 bif Nat.beq (List.length r.2.2.2.2.2.2.2) (List.length r.2.2.2.2.2.2.2) then
 bif Nat.beq (List.length j4) (List.length j4) then
 some (.inl (room, W64 (t26 + 1), r.2.1, r.2.2.1, r.2.2.2.1, r.2.2.2.2.1, r.2.2.2.2.2.1, j, j2, j3, r.2.2.2.2.2.2.2, j4))
 else none
 else none
 else none
 else
 bif Nat.beq (List.length d6) (List.length d6) then
 bif Nat.beq (List.length j4) (List.length j4) then
 some (.inr (.inl (d, d2, d3, d4, d5, j, j2, j3, d6, j4)))
 else none
 else none
def z1h (s : z9m) : Option (z9m ⊕ zdn) := z3v s.1 s.2.1 s.2.2.1 s.2.2.2.1 s.2.2.2.2.1 s.2.2.2.2.2.1 s.2.2.2.2.2.2.1 s.2.2.2.2.2.2.2.1 s.2.2.2.2.2.2.2.2.1 s.2.2.2.2.2.2.2.2.2.1 s.2.2.2.2.2.2.2.2.2.2.1 s.2.2.2.2.2.2.2.2.2.2.2
theorem zmy : SoundD Try.prog (.loop (subC (bodyC Try.f10) [1, 1, 1, 1, 0, 1, 0, 0])) (loopD z3u.xe z3x (loopC z1h)) :=
 z1c (S := z3u.xe) (X := z3x) zib (h := .no) (z0d [] (by kernel_rfl) trivial) (z0a z3u) zls z1h (fun s => by kernel_rfl)
def zaz : Shp := ⟨138, 1, [(5, .pt 1 r6 [])], [.var 71 (.ag [.wn 2 c1, .d c2, .d (.int .i64), .d c3, .d (.int .i64), .d .bool]), .var 75 (.ag [.pt 0 r0 [], .d c4, .wn 3 (.int .u8), .d (.int .i64), .d .bool]), .row 86 c1, .row 5 (.int .u8)]⟩
def zau : Shp := ⟨138, 1, [(2, .c .nilp), (3, .d c5), (4, .d (.int .i64))], [.var 71 (.ag [.wn 1 c1, .d c2, .d (.int .i64), .d c3, .d (.int .i64), .d .bool]), .row 86 c1]⟩
def z2k : XS := .or (.exit 2) zaz.xe (.one .ret zau.xe)
theorem zi6 : z2k.OK := XS.or_ok (z0a zaz) (XS.one_ok (z0a zau))
def z2f : Shp := ⟨138, 1, [(0, .pt 0 r0 []), (5, .pt 1 r6 []), (12, .d (.int .i64))], [.var 71 (.ag [.wn 2 c1, .d c2, .d (.int .i64), .d c3, .d (.int .i64), .d .bool]), .var 75 (.ag [.pt 0 r0 [], .d c4, .wn 3 (.int .u8), .d (.int .i64), .d .bool]), .row 86 c1, .row 5 (.int .u8)]⟩
abbrev z7m := Int × (List T0) × Int × T1 × Int × Bool × T2 × Int × Bool × (List (List Int)) × (List Int)
abbrev zbr := ((List T0) × Int × T1 × Int × Bool × T2 × Int × Bool × (List (List Int)) × (List Int)) ⊕ ((List (List Int)) × Int × (List T0) × Int × T1 × Int × Bool × (List (List Int)))
def z2e (i : Int) (d : List T0) (d2 : Int) (d3 : T1) (d4 : Int) (d5 : Bool) (j : T2) (j2 : Int) (j3 : Bool) (d6 : List (List Int)) (j4 : List Int) : Option (z7m ⊕ zbr) :=
 bif ltI (W64 (i * 256)) j.2.2 then
 winK d6 0 (List.length d6) fun w =>
 winK j4 0 (List.length j4) fun w2 =>
 (z9b (w, d, d2, d3, d4, d5) j w2 j2 j3 j.2.1 i).bind fun r =>
 bif Nat.beq (List.length d6) (List.length d6) then
 (z6u r d d2 d3 d4 d5 d6).bind fun r2 =>
 bif neI r2.1 0 then
 bif Nat.beq (List.length r2.2.2.2.2.2.2.2) (List.length r2.2.2.2.2.2.2.2) then
 some (.inr (.inr ([], r2.1, r2.2.1, r2.2.2.1, r2.2.2.2.1, r2.2.2.2.2.1, r2.2.2.2.2.2.1, r2.2.2.2.2.2.2.2)))
 else none
 else
 bif Nat.beq (List.length j4) (List.length j4) then
 winK r2.2.2.2.2.2.2.1 0 (List.length r2.2.2.2.2.2.2.1) fun w3 =>
 appG (List.length j4) (List.length w3) 1 fun _ =>
 bif Nat.beq (List.length r2.2.2.2.2.2.2.2) (List.length r2.2.2.2.2.2.2.2) then
 bif Nat.beq (List.length (j4 ++ w3)) (List.length (j4 ++ w3)) then
 some (.inl (W64 (i + 1), r2.2.1, r2.2.2.1, r2.2.2.2.1, r2.2.2.2.2.1, r2.2.2.2.2.2.1, j, j2, j3, r2.2.2.2.2.2.2.2, j4 ++ w3))
 else none
 else none
 else none
 else none
 else
 bif Nat.beq (List.length d6) (List.length d6) then
 bif Nat.beq (List.length j4) (List.length j4) then
 some (.inr (.inl (d, d2, d3, d4, d5, j, j2, j3, d6, j4)))
 else none
 else none
def z1i (s : z7m) : Option (z7m ⊕ zbr) := z2e s.1 s.2.1 s.2.2.1 s.2.2.2.1 s.2.2.2.2.1 s.2.2.2.2.2.1 s.2.2.2.2.2.2.1 s.2.2.2.2.2.2.2.1 s.2.2.2.2.2.2.2.2.1 s.2.2.2.2.2.2.2.2.2.1 s.2.2.2.2.2.2.2.2.2.2
theorem zin : SoundD Try.prog (.loop (subC (bodyC Try.f10) [1, 1, 1, 1, 1, 1, 0, 1, 0, 0])) (loopD z2f.xe z2k (loopC z1i)) :=
 z1c (S := z2f.xe) (X := z2k) zib (h := .no) (z0d [] (by kernel_rfl) trivial) (z0a z2f) zi6 z1i (fun s => by kernel_rfl)
def zrd : Shp := ⟨1, 1, [(0, .tu [.c .nilp, .d c5, .d (.int .i64)])], [.var 71 (.ag [.wn 1 c1, .d c2, .d (.int .i64), .d c3, .d (.int .i64), .d .bool]), .row 86 c1]⟩
def zs5 : Shp := ⟨1, 1, [(0, .tu [.pt 1 r6 [], .wn 2 (.sl (.int .u8)), .d (.int .i64)])], [.var 71 (.ag [.wn 3 c1, .d c2, .d (.int .i64), .d c3, .d (.int .i64), .d .bool]), .var 75 (.ag [.pt 0 r0 [], .d c4, .d (.sl (.int .u8)), .d (.int .i64), .d .bool]), .row 34 (.sl (.int .u8)), .row 86 c1]⟩
def zx1 : XS := .or .ret zrd.xe (.one .ret zs5.xe)
theorem z14l : zx1.OK := XS.or_ok (z0a zrd) (XS.one_ok (z0a zs5))
def z1y (d : List T0) (d2 : Int) (d3 : T1) (d4 : Int) (d5 : Bool) (d6 : List (List Int)) : Option (((List (List Int)) × Int × (List T0) × Int × T1 × Int × Bool × (List (List Int))) ⊕ (Int × (List T0) × Int × T1 × Int × Bool × T2 × (List Int) × Int × Bool × (List (List Int)) × (List (List Int)))) :=
 winK d6 0 (List.length d6) fun w =>
 (z6z (w, d, d2, d3, d4, d5)).bind fun r =>
 bif ltI r 6 then
 bif Nat.beq (List.length d6) (List.length d6) then
 some (.inl ([], 1, d, d2, d3, d4, d5, d6))
 else none
 else
 winK d6 0 (List.length d6) fun w2 =>
 (z4g (w2, d, d2, d3, d4, d5)).bind fun r2 =>
 bif Nat.beq (List.length d6) (List.length d6) then
 bif Nat.beq 0 (List.length ([] : List Int)) then
 (loopC z1h (W64 (r2 * 256), 0, d, d2, d3, d4, d5, (0, 0, 0), 0, false, d6, ([] : List Int))).bind fun o =>
 Sum.elim (fun y =>
 bif eqI y.2.2.2.2.2.1.1 0 then
 bif Nat.beq (List.length y.2.2.2.2.2.2.2.2.2) (List.length y.2.2.2.2.2.2.2.2.2) then
 bif Nat.beq (List.length y.2.2.2.2.2.2.2.2.1) (List.length y.2.2.2.2.2.2.2.2.1) then
 (zah (1, 0, 0) y.2.2.2.2.2.1 y.2.2.2.2.2.2.1 y.2.2.2.2.2.2.2.1 y.1 y.2.1 y.2.2.1 y.2.2.2.1 y.2.2.2.2.1 y.2.2.2.2.2.2.2.2.2 y.2.2.2.2.2.2.2.2.1).bind fun r3 =>
 bif neI r3.1 0 then
 bif Nat.beq (List.length r3.2.2.2.2.2.2.2.2.2.2) (List.length r3.2.2.2.2.2.2.2.2.2.2) then
 some (.inl ([], r3.1, r3.2.2.2.2.2.1, r3.2.2.2.2.2.2.1, r3.2.2.2.2.2.2.2.1, r3.2.2.2.2.2.2.2.2.1, r3.2.2.2.2.2.2.2.2.2.1, r3.2.2.2.2.2.2.2.2.2.2))
 else none
 else
 bif Nat.beq 0 (List.length ([] : List (List Int))) then
 bif Nat.beq (List.length r3.2.2.2.2.2.2.2.2.2.2) (List.length r3.2.2.2.2.2.2.2.2.2.2) then
 some (.inr (0, r3.2.2.2.2.2.1, r3.2.2.2.2.2.2.1, r3.2.2.2.2.2.2.2.1, r3.2.2.2.2.2.2.2.2.1, r3.2.2.2.2.2.2.2.2.2.1, r3.2.1, r3.2.2.1, r3.2.2.2.1, r3.2.2.2.2.1, ([] : List (List Int)), r3.2.2.2.2.2.2.2.2.2.2))
 else none
 else none
 else none
 else none
 else
 bif Nat.beq (List.length y.2.2.2.2.2.2.2.2.1) (List.length y.2.2.2.2.2.2.2.2.1) then
 bif Nat.beq (List.length y.2.2.2.2.2.2.2.2.2) (List.length y.2.2.2.2.2.2.2.2.2) then
 (loopC z1i (0, y.1, y.2.1, y.2.2.1, y.2.2.2.1, y.2.2.2.2.1, y.2.2.2.2.2.1, y.2.2.2.2.2.2.1, y.2.2.2.2.2.2.2.1, y.2.2.2.2.2.2.2.2.1, y.2.2.2.2.2.2.2.2.2)).bind fun o2 =>
 Sum.elim (fun y3 =>
 bif subOk 0 y3.2.2.2.2.2.1.2.2 (List.length y3.2.2.2.2.2.2.2.2.2) && eqI y3.2.2.2.2.2.1.2.2 y3.2.2.2.2.2.1.2.2 then
 (zev (List.replicate y3.2.2.2.2.2.1.2.2.toNat true) y3.2.2.2.2.2.2.2.2.2).bind fun r4 =>
 bif neI r4.1 0 then
 bif Nat.beq (List.length y3.2.2.2.2.2.2.2.2.1) (List.length y3.2.2.2.2.2.2.2.2.1) then
 some (.inl ([], r4.1, y3.1, y3.2.1, y3.2.2.1, y3.2.2.2.1, y3.2.2.2.2.1, y3.2.2.2.2.2.2.2.2.1))
 else none
 else
 z0j (List.length r4.2.2) (
 winK r4.2.1 0 y3.2.2.2.2.2.1.2.2.toNat fun w3 =>
 bif Nat.beq (List.length r4.2.2) (List.length r4.2.2) then
 bif Nat.beq (List.length y3.2.2.2.2.2.2.2.2.1) (List.length y3.2.2.2.2.2.2.2.2.1) then
 some (.inr (0, y3.1, y3.2.1, y3.2.2.1, y3.2.2.2.1, y3.2.2.2.2.1, y3.2.2.2.2.2.1, w3, (List.length r4.2.2 : Nat), y3.2.2.2.2.2.2.2.1, r4.2.2, y3.2.2.2.2.2.2.2.2.1))
 else none
 else none)
 else none) (fun y4 =>
 bif Nat.beq (List.length y4.2.2.2.2.2.2.2) (List.length y4.2.2.2.2.2.2.2) then
 some (.inl (y4.1, y4.2.1, y4.2.2.1, y4.2.2.2.1, y4.2.2.2.2.1, y4.2.2.2.2.2.1, y4.2.2.2.2.2.2.1, y4.2.2.2.2.2.2.2))
 else none) o2
 else none
 else none) (fun y2 =>
 bif Nat.beq (List.length y2.2.2.2.2.2.2.2) (List.length y2.2.2.2.2.2.2.2) then
 some (.inl (y2.1, y2.2.1, y2.2.2.1, y2.2.2.2.1, y2.2.2.2.2.1, y2.2.2.2.2.2.1, y2.2.2.2.2.2.2.1, y2.2.2.2.2.2.2.2))
 else none) o
 else none
 else none
def zn1 : Sig := ⟨10, [.pt 0 r0 []], [.var 71 (.ag [.wn 1 c1, .d c2, .d (.int .i64), .d c3, .d (.int .i64), .d .bool]), .row 86 c1], 1, zx1⟩
def zlc (x : (List T0) × Int × T1 × Int × Bool × (List (List Int))) : Option (((List (List Int)) × Int × (List T0) × Int × T1 × Int × Bool × (List (List Int))) ⊕ (Int × (List T0) × Int × T1 × Int × Bool × T2 × (List Int) × Int × Bool × (List (List Int)) × (List (List Int)))) := z1y x.1 x.2.1 x.2.2.1 x.2.2.2.1 x.2.2.2.2.1 x.2.2.2.2.2
theorem ztq : FnOK Try.prog zn1 zlc :=
 fn_ok zib (h := (.two .no (.two .no (.two .no (.two .no (.two (.two .no (.over (loopD z3u.xe z3x (loopC z1h)))) (.two .no (.two (.two .no (.over (loopD z2f.xe z2k (loopC z1i)))) .no)))))))) Try.func10 (z0d [.den (.loop (subC (bodyC Try.f10) [1, 1, 1, 1, 0, 1, 0, 0])) (loopD z3u.xe z3x (loopC z1h)), .den (.loop (subC (bodyC Try.f10) [1, 1, 1, 1, 1, 1, 0, 1, 0, 0])) (loopD z2f.xe z2k (loopC z1i))] (by kernel_rfl) ⟨zmy, zin, trivial⟩) (by kernel_rfl) z14l (fun x => by kernel_rfl)
def zss : Env := ⟨[], [], []⟩
theorem zqm : EnvsOK Try.prog zss := ⟨z0i _, z0e _, z0f _⟩
def zf6 : Shp := ⟨1, 0, [(0, .d .bool)], []⟩
def zgr : XS := .one .ret zf6.xe
theorem zpj : zgr.OK := XS.one_ok (z0a zf6)
def z6k (j : T3) (j2 : T2) (j3 : List Int) (j4 : Int) (j5 : Bool) : Option ((Bool)) :=
 some j5
def zbn : Sig := ⟨15, [.rf (.ag [.rf (.d c8), .d c4, .d (.sl (.int .u8)), .d (.int .i64), .d .bool])], [], 0, zgr⟩
def zal (x : T3 × T2 × (List Int) × Int × Bool) : Option ((Bool)) := z6k x.1 x.2.1 x.2.2.1 x.2.2.2.1 x.2.2.2.2
theorem zg1 : FnOK Try.prog zbn zal :=
 fn_ok zqm (h := .no) Try.func15 (z0d [] (by kernel_rfl) trivial) (by kernel_rfl) zpj (fun x => by kernel_rfl)
def zx8 : Env := ⟨[(entQ zb5 zad), (entQ zt2 zr0)], [(entP z9u z8w)], []⟩
theorem zuf : EnvsOK Try.prog zx8 := ⟨z0c (z0h ze3) (z0c (z0h z11i) (z0i _)), z0k (z0o zc0) (z0e _), z0f _⟩
def zhy : Shp := ⟨1, 2, [(0, .d (.int .i64))], [.var 71 (.ag [.wn 2 c1, .d c2, .d (.int .i64), .d c3, .d (.int .i64), .d .bool]), .row 5 (.int .u8), .row 86 c1]⟩
def zkp : XS := .one .ret zhy.xe
theorem zsy : zkp.OK := XS.one_ok (z0a zhy)
def z8o (i : Int) (d : List T0) (d2 : Int) (d3 : T1) (d4 : Int) (d5 : Bool) (b : List Int) (d6 : List (List Int)) : Option ((Int × (List T0) × Int × T1 × Int × Bool × (List Int) × (List (List Int)))) :=
 winK d6 0 (List.length d6) fun w =>
 (z7q (w, d, d2, d3, d4, d5) i).bind fun r =>
 bif neI r 0 then
 bif Nat.beq (List.length d6) (List.length d6) then
 some (r, d, d2, d3, d4, d5, b, d6)
 else none
 else
 z0j (List.length b) (
 bif neI (List.length b : Nat) 256 then
 bif Nat.beq (List.length d6) (List.length d6) then
 some (1, d, d2, d3, d4, d5, b, d6)
 else none
 else
 winK b 0 (List.length b) fun w2 =>
 bif Nat.ble 256 (List.length (List.replicate 256 (0 : Int))) then
 (zm2 d).bind fun r2 =>
 appG (List.length r2) (List.length (([(i, cpyL (List.replicate 256 (0 : Int)) 0 256 w2)] : List T0))) 264 fun _ =>
 bif Nat.beq (List.length d6) (List.length d6) then
 (z5j (r2 ++ (([(i, cpyL (List.replicate 256 (0 : Int)) 0 256 w2)] : List T0))) d2 d3 d4 d5 d6).bind fun r3 =>
 bif Nat.beq (List.length r3.2.2.2.2.2.2) (List.length r3.2.2.2.2.2.2) then
 some (r3.1, r3.2.1, r3.2.2.1, r3.2.2.2.1, r3.2.2.2.2.1, r3.2.2.2.2.2.1, b, r3.2.2.2.2.2.2)
 else none
 else none
 else none)
def zkn : Sig := ⟨53, [.pt 0 r0 [], .d (.int .i64), .wn 1 (.int .u8)], [.var 71 (.ag [.wn 2 c1, .d c2, .d (.int .i64), .d c3, .d (.int .i64), .d .bool]), .row 5 (.int .u8), .row 86 c1], 2, zkp⟩
def zjp (x : Int × (List T0) × Int × T1 × Int × Bool × (List Int) × (List (List Int))) : Option ((Int × (List T0) × Int × T1 × Int × Bool × (List Int) × (List (List Int)))) := z8o x.1 x.2.1 x.2.2.1 x.2.2.2.1 x.2.2.2.2.1 x.2.2.2.2.2.1 x.2.2.2.2.2.2.1 x.2.2.2.2.2.2.2
theorem zwf : FnOK Try.prog zkn zjp :=
 fn_ok zuf (h := .no) Try.func53 (z0d [] (by kernel_rfl) trivial) (by kernel_rfl) zsy (fun x => by kernel_rfl)
def zvr : Env := ⟨[(entQ z3t z3b)], [(entP zd6 zcc), (entP z8x z8j)], []⟩
theorem zsk : EnvsOK Try.prog zvr := ⟨z0c (z0h z5h) (z0i _), z0k (z0o zjd) (z0k (z0o zbh) (z0e _)), z0f _⟩
def zem : Shp := ⟨34, 2, [(0, .pt 0 r6 []), (3, .pt 2 r7 []), (5, .d (.int .i64))], [.var 75 (.ag [.pt 1 r0 [], .d c4, .d (.sl (.int .u8)), .d (.int .i64), .d .bool]), .var 71 (.ag [.wn 3 c1, .d c2, .d (.int .i64), .d c3, .d (.int .i64), .d .bool]), .var 73 (.d c4), .row 86 c1]⟩
def zay : XS := .one .normal zem.xe
theorem zoc : zay.OK := XS.one_ok (z0a zem)
def zgv : Shp := ⟨1, 2, [(0, .d (.int .i64))], [.var 75 (.ag [.pt 1 r0 [], .d c4, .d (.sl (.int .u8)), .d (.int .i64), .d .bool]), .var 71 (.ag [.wn 2 c1, .d c2, .d (.int .i64), .d c3, .d (.int .i64), .d .bool]), .row 86 c1]⟩
def zjx : XS := .one .ret zgv.xe
theorem zrp : zjx.OK := XS.one_ok (z0a zgv)
def zae (t : T2) (j : T2) (j2 : List Int) (j3 : Int) (j4 : Bool) (j5 : List T0) (j6 : Int) (j7 : T1) (j8 : Int) (j9 : Bool) (j10 : List (List Int)) : Option ((Int × T2 × (List Int) × Int × Bool × (List T0) × Int × T1 × Int × Bool × (List (List Int)))) :=
 (z1o t).bind fun r =>
 bif Nat.beq (List.length j10) (List.length j10) then
 (z8u (W64 (Int.tmod t.1 2)) r j5 j6 j7 j8 j9 j10).bind fun r2 =>
 (show Option ((Int × T2 × (List Int) × Int × Bool × (List T0) × Int × T1 × Int × Bool × T2 × (List (List Int)))) from
 bif eqI r2.1 0 then
 bif Nat.beq (List.length r2.2.2.2.2.2.2) (List.length r2.2.2.2.2.2.2) then
 (z4q r2.2.1 r2.2.2.1 r2.2.2.2.1 r2.2.2.2.2.1 r2.2.2.2.2.2.1 r2.2.2.2.2.2.2).bind fun r3 =>
 bif Nat.beq (List.length r3.2.2.2.2.2.2) (List.length r3.2.2.2.2.2.2) then
 some (r3.1, j, j2, j3, j4, r3.2.1, r3.2.2.1, r3.2.2.2.1, r3.2.2.2.2.1, r3.2.2.2.2.2.1, t, r3.2.2.2.2.2.2)
 else none
 else none
 else
 bif Nat.beq (List.length r2.2.2.2.2.2.2) (List.length r2.2.2.2.2.2.2) then
 some (r2.1, j, j2, j3, j4, r2.2.1, r2.2.2.1, r2.2.2.2.1, r2.2.2.2.2.1, r2.2.2.2.2.2.1, t, r2.2.2.2.2.2.2)
 else none).bind fun j11 =>
 bif neI j11.1 0 then
 bif Nat.beq (List.length j11.2.2.2.2.2.2.2.2.2.2.2) (List.length j11.2.2.2.2.2.2.2.2.2.2.2) then
 some (j11.1, j11.2.1, j11.2.2.1, j11.2.2.2.1, true, j11.2.2.2.2.2.1, j11.2.2.2.2.2.2.1, j11.2.2.2.2.2.2.2.1, j11.2.2.2.2.2.2.2.2.1, j11.2.2.2.2.2.2.2.2.2.1, j11.2.2.2.2.2.2.2.2.2.2.2)
 else none
 else
 bif Nat.beq (List.length j11.2.2.2.2.2.2.2.2.2.2.2) (List.length j11.2.2.2.2.2.2.2.2.2.2.2) then
 some (0, j11.2.2.2.2.2.2.2.2.2.2.1, j11.2.2.1, j11.2.2.2.1, j11.2.2.2.2.1, j11.2.2.2.2.2.1, j11.2.2.2.2.2.2.1, j11.2.2.2.2.2.2.2.1, j11.2.2.2.2.2.2.2.2.1, j11.2.2.2.2.2.2.2.2.2.1, j11.2.2.2.2.2.2.2.2.2.2.2)
 else none
 else none
def zjc : Sig := ⟨33, [.pt 0 r6 [], .d c4], [.var 75 (.ag [.pt 1 r0 [], .d c4, .d (.sl (.int .u8)), .d (.int .i64), .d .bool]), .var 71 (.ag [.wn 2 c1, .d c2, .d (.int .i64), .d c3, .d (.int .i64), .d .bool]), .row 86 c1], 2, zjx⟩
def zhx (x : T2 × T2 × (List Int) × Int × Bool × (List T0) × Int × T1 × Int × Bool × (List (List Int))) : Option ((Int × T2 × (List Int) × Int × Bool × (List T0) × Int × T1 × Int × Bool × (List (List Int)))) := zae x.1 x.2.1 x.2.2.1 x.2.2.2.1 x.2.2.2.2.1 x.2.2.2.2.2.1 x.2.2.2.2.2.2.1 x.2.2.2.2.2.2.2.1 x.2.2.2.2.2.2.2.2.1 x.2.2.2.2.2.2.2.2.2.1 x.2.2.2.2.2.2.2.2.2.2
theorem zuh : FnOK Try.prog zjc zhx :=
 fn_ok zsk (h := (.two .no (.two (.reg [] [10, 0, 1]) (.join (fun _ => zay) .no .no)))) Try.func33 (z0d [.xs (fun _ => zay)] (by kernel_rfl) ⟨(z4b zoc), trivial⟩) (by kernel_rfl) zrp (fun x => by kernel_rfl)
def zxd : Env := ⟨[(entQ z5t z4s), (entQ ze2 zcz)], [(entP zkn zjp), (entP z8x z8j), (entP zjc zhx)], []⟩
theorem zhg : EnvsOK Try.prog zxd := ⟨z0c (z0h z6v) (z0c (z0h zkr) (z0i _)), z0k (z0o zwf) (z0k (z0o zbh) (z0k (z0o zuh) (z0e _))), z0f _⟩
def zb3 : Shp := ⟨99, 2, [(0, .pt 0 r6 []), (1, .d (.int .i64)), (3, .d (.sl (.int .u8))), (4, .d (.int .i64))], [.var 75 (.ag [.pt 1 r0 [], .d c4, .d (.sl (.int .u8)), .d (.int .i64), .d .bool]), .var 71 (.ag [.wn 2 c1, .d c2, .d (.int .i64), .d c3, .d (.int .i64), .d .bool]), .row 86 c1]⟩
def zb2 : Shp := ⟨99, 2, [(10, .d (.int .i64))], [.var 75 (.ag [.pt 1 r0 [], .d c4, .d (.sl (.int .u8)), .d (.int .i64), .d .bool]), .var 71 (.ag [.wn 2 c1, .d c2, .d (.int .i64), .d c3, .d (.int .i64), .d .bool]), .row 86 c1]⟩
def z2t : XS := .or (.exit 0) zb3.xe (.one .ret zb2.xe)
theorem zij : z2t.OK := XS.or_ok (z0a zb3) (XS.one_ok (z0a zb2))
def z2s : Shp := ⟨99, 2, [(0, .pt 0 r6 []), (1, .d (.int .i64)), (3, .d (.sl (.int .u8))), (4, .d (.int .i64)), (11, .d (.int .i64))], [.var 75 (.ag [.pt 1 r0 [], .d c4, .d (.sl (.int .u8)), .d (.int .i64), .d .bool]), .var 71 (.ag [.wn 2 c1, .d c2, .d (.int .i64), .d c3, .d (.int .i64), .d .bool]), .row 86 c1]⟩
abbrev z8c := Int × (List Int) × Int × Int × T2 × (List Int) × Int × Bool × (List T0) × Int × T1 × Int × Bool × (List (List Int))
abbrev zc3 := (Int × (List Int) × Int × T2 × (List Int) × Int × Bool × (List T0) × Int × T1 × Int × Bool × (List (List Int))) ⊕ (Int × T2 × (List Int) × Int × Bool × (List T0) × Int × T1 × Int × Bool × (List (List Int)))
def z2o (side : Int) (all : List Int) (count : Int) (i : Int) (j : T2) (j2 : List Int) (j3 : Int) (j4 : Bool) (j5 : List T0) (j6 : Int) (j7 : T1) (j8 : Int) (j9 : Bool) (j10 : List (List Int)) : Option (z8c ⊕ zc3) :=
 z0j (List.length all) (
 bif ltI (W64 (i * 256)) (List.length all : Nat) then
 bif subOk (W64 (i * 256)) (List.length all : Nat) (List.length all) then
 bif Nat.ble 256 (List.length (List.replicate 256 (0 : Int))) then
 winK j10 0 (List.length j10) fun w =>
 (z9b (w, j5, j6, j7, j8, j9) j j2 j3 j4 side i).bind fun r =>
 bif Nat.beq 256 (List.length (cpyL (List.replicate 256 (0 : Int)) 0 256 (subL all (W64 (i * 256)) (List.length all : Nat)))) then
 bif Nat.beq (List.length j10) (List.length j10) then
 (z8o r j5 j6 j7 j8 j9 (cpyL (List.replicate 256 (0 : Int)) 0 256 (subL all (W64 (i * 256)) (List.length all : Nat))) j10).bind fun r2 =>
 bif neI r2.1 0 then
 bif Nat.beq (List.length r2.2.2.2.2.2.2.2) (List.length r2.2.2.2.2.2.2.2) then
 some (.inr (.inr (r2.1, j, j2, j3, true, r2.2.1, r2.2.2.1, r2.2.2.2.1, r2.2.2.2.2.1, r2.2.2.2.2.2.1, r2.2.2.2.2.2.2.2)))
 else none
 else
 bif Nat.beq (List.length r2.2.2.2.2.2.2.2) (List.length r2.2.2.2.2.2.2.2) then
 some (.inl (side, all, count, W64 (i + 1), j, j2, j3, j4, r2.2.1, r2.2.2.1, r2.2.2.2.1, r2.2.2.2.2.1, r2.2.2.2.2.2.1, r2.2.2.2.2.2.2.2))
 else none
 else none
 else none
 else none
 else none
 else
 bif Nat.beq (List.length j10) (List.length j10) then
 some (.inr (.inl (side, all, count, j, j2, j3, j4, j5, j6, j7, j8, j9, j10)))
 else none)
def z1m (s : z8c) : Option (z8c ⊕ zc3) := z2o s.1 s.2.1 s.2.2.1 s.2.2.2.1 s.2.2.2.2.1 s.2.2.2.2.2.1 s.2.2.2.2.2.2.1 s.2.2.2.2.2.2.2.1 s.2.2.2.2.2.2.2.2.1 s.2.2.2.2.2.2.2.2.2.1 s.2.2.2.2.2.2.2.2.2.2.1 s.2.2.2.2.2.2.2.2.2.2.2.1 s.2.2.2.2.2.2.2.2.2.2.2.2.1 s.2.2.2.2.2.2.2.2.2.2.2.2.2
theorem zkf : SoundD Try.prog (.loop (subC (bodyC Try.f37) [1, 1, 0, 1, 0, 0])) (loopD z2s.xe z2t (loopC z1m)) :=
 z1c (S := z2s.xe) (X := z2t) zhg (h := (.two .no (.two (.two .no (.two .no (.two (.reg [] [9, 0, 1]) .no))) .no))) (z0d [] (by kernel_rfl) trivial) (z0a z2s) zij z1m (fun s => by kernel_rfl)
def zhp : Shp := ⟨1, 2, [(0, .d (.int .i64))], [.var 75 (.ag [.pt 1 r0 [], .d c4, .d (.sl (.int .u8)), .d (.int .i64), .d .bool]), .var 71 (.ag [.wn 2 c1, .d c2, .d (.int .i64), .d c3, .d (.int .i64), .d .bool]), .row 86 c1]⟩
def zl1 : XS := .one .ret zhp.xe
theorem zsq : zl1.OK := XS.one_ok (z0a zhp)
def z8p (side : Int) (there : Int) (all : List Int) (count : Int) (j : T2) (j2 : List Int) (j3 : Int) (j4 : Bool) (j5 : List T0) (j6 : Int) (j7 : T1) (j8 : Int) (j9 : Bool) (j10 : List (List Int)) : Option ((Int × T2 × (List Int) × Int × Bool × (List T0) × Int × T1 × Int × Bool × (List (List Int)))) :=
 bif eqI j.1 4611686018427387904 then
 bif Nat.beq (List.length j10) (List.length j10) then
 some (5, j, j2, j3, j4, j5, j6, j7, j8, j9, j10)
 else none
 else
 z0j (List.length all) (
 winK j10 0 (List.length j10) fun w =>
 (z4g (w, j5, j6, j7, j8, j9)).bind fun r =>
 bif ltI (W64 (r * 256)) (List.length all : Nat) then
 bif Nat.beq (List.length j10) (List.length j10) then
 some (5, j, j2, j3, j4, j5, j6, j7, j8, j9, j10)
 else none
 else
 bif Nat.beq (List.length j10) (List.length j10) then
 (loopC z1m (side, all, count, W64 (Int.tdiv there 256), j, j2, j3, j4, j5, j6, j7, j8, j9, j10)).bind fun o =>
 Sum.elim (fun y =>
 bif Nat.beq (List.length y.2.2.2.2.2.2.2.2.2.2.2.2) (List.length y.2.2.2.2.2.2.2.2.2.2.2.2) then
 (z4q y.2.2.2.2.2.2.2.1 y.2.2.2.2.2.2.2.2.1 y.2.2.2.2.2.2.2.2.2.1 y.2.2.2.2.2.2.2.2.2.2.1 y.2.2.2.2.2.2.2.2.2.2.2.1 y.2.2.2.2.2.2.2.2.2.2.2.2).bind fun r2 =>
 bif neI r2.1 0 then
 bif Nat.beq (List.length r2.2.2.2.2.2.2) (List.length r2.2.2.2.2.2.2) then
 some (r2.1, y.2.2.2.1, y.2.2.2.2.1, y.2.2.2.2.2.1, true, r2.2.1, r2.2.2.1, r2.2.2.2.1, r2.2.2.2.2.1, r2.2.2.2.2.2.1, r2.2.2.2.2.2.2)
 else none
 else
 z0j (List.length y.2.1) (
 bif Nat.beq (List.length r2.2.2.2.2.2.2) (List.length r2.2.2.2.2.2.2) then
 (zae (WU64 (y.2.2.2.1.1 + 1), y.1, (List.length y.2.1 : Nat)) y.2.2.2.1 y.2.2.2.2.1 y.2.2.2.2.2.1 y.2.2.2.2.2.2.1 r2.2.1 r2.2.2.1 r2.2.2.2.1 r2.2.2.2.2.1 r2.2.2.2.2.2.1 r2.2.2.2.2.2.2).bind fun r3 =>
 bif neI r3.1 0 then
 bif Nat.beq (List.length r3.2.2.2.2.2.2.2.2.2.2) (List.length r3.2.2.2.2.2.2.2.2.2.2) then
 some (r3.1, r3.2.1, r3.2.2.1, r3.2.2.2.1, r3.2.2.2.2.1, r3.2.2.2.2.2.1, r3.2.2.2.2.2.2.1, r3.2.2.2.2.2.2.2.1, r3.2.2.2.2.2.2.2.2.1, r3.2.2.2.2.2.2.2.2.2.1, r3.2.2.2.2.2.2.2.2.2.2)
 else none
 else
 bif Nat.beq (List.length r3.2.2.2.2.2.2.2.2.2.2) (List.length r3.2.2.2.2.2.2.2.2.2.2) then
 some (0, r3.2.1, y.2.1, y.2.2.1, r3.2.2.2.2.1, r3.2.2.2.2.2.1, r3.2.2.2.2.2.2.1, r3.2.2.2.2.2.2.2.1, r3.2.2.2.2.2.2.2.2.1, r3.2.2.2.2.2.2.2.2.2.1, r3.2.2.2.2.2.2.2.2.2.2)
 else none
 else none)
 else none) (fun y2 =>
 bif Nat.beq (List.length y2.2.2.2.2.2.2.2.2.2.2) (List.length y2.2.2.2.2.2.2.2.2.2.2) then
 some (y2.1, y2.2.1, y2.2.2.1, y2.2.2.2.1, y2.2.2.2.2.1, y2.2.2.2.2.2.1, y2.2.2.2.2.2.2.1, y2.2.2.2.2.2.2.2.1, y2.2.2.2.2.2.2.2.2.1, y2.2.2.2.2.2.2.2.2.2.1, y2.2.2.2.2.2.2.2.2.2.2)
 else none) o
 else none)
def zd4 : Sig := ⟨37, [.pt 0 r6 [], .d (.int .i64), .d (.int .i64), .d (.sl (.int .u8)), .d (.int .i64)], [.var 75 (.ag [.pt 1 r0 [], .d c4, .d (.sl (.int .u8)), .d (.int .i64), .d .bool]), .var 71 (.ag [.wn 2 c1, .d c2, .d (.int .i64), .d c3, .d (.int .i64), .d .bool]), .row 86 c1], 2, zl1⟩
def zck (x : Int × Int × (List Int) × Int × T2 × (List Int) × Int × Bool × (List T0) × Int × T1 × Int × Bool × (List (List Int))) : Option ((Int × T2 × (List Int) × Int × Bool × (List T0) × Int × T1 × Int × Bool × (List (List Int)))) := z8p x.1 x.2.1 x.2.2.1 x.2.2.2.1 x.2.2.2.2.1 x.2.2.2.2.2.1 x.2.2.2.2.2.2.1 x.2.2.2.2.2.2.2.1 x.2.2.2.2.2.2.2.2.1 x.2.2.2.2.2.2.2.2.2.1 x.2.2.2.2.2.2.2.2.2.2.1 x.2.2.2.2.2.2.2.2.2.2.2.1 x.2.2.2.2.2.2.2.2.2.2.2.2.1 x.2.2.2.2.2.2.2.2.2.2.2.2.2
theorem zik : FnOK Try.prog zd4 zck :=
 fn_ok zhg (h := (.two .no (.two .no (.two (.two .no (.over (loopD z2s.xe z2t (loopC z1m)))) .no)))) Try.func37 (z0d [.den (.loop (subC (bodyC Try.f37) [1, 1, 0, 1, 0, 0])) (loopD z2s.xe z2t (loopC z1m))] (by kernel_rfl) ⟨zkf, trivial⟩) (by kernel_rfl) zsq (fun x => by kernel_rfl)
def zxh : Env := ⟨[(entQ zbn zal), (entQ z5t z4s), (entQ zez zdg), (entQ zlb zig)], [(entP zd4 zck)], []⟩
theorem ztz : EnvsOK Try.prog zxh := ⟨z0c (z0h zg1) (z0c (z0h z6v) (z0c (z0h zi2) (z0c (z0h zro) (z0i _)))), z0k (z0o zik) (z0e _), z0f _⟩
def zhm : Shp := ⟨1, 2, [(0, .d (.int .i64))], [.var 75 (.ag [.pt 1 r0 [], .d c4, .d (.sl (.int .u8)), .d (.int .i64), .d .bool]), .var 71 (.ag [.wn 2 c1, .d c2, .d (.int .i64), .d c3, .d (.int .i64), .d .bool]), .row 86 c1]⟩
def zl2 : XS := .one .ret zhm.xe
theorem zsl : zl2.OK := XS.one_ok (z0a zhm)
def z1l (records : List (List Int)) (j : T2) (j2 : List Int) (j3 : Int) (j4 : Bool) (j5 : List T0) (j6 : Int) (j7 : T1) (j8 : Int) (j9 : Bool) (j10 : List (List Int)) : Option ((Int × T2 × (List Int) × Int × Bool × (List T0) × Int × T1 × Int × Bool × (List (List Int)))) :=
 winK j10 0 (List.length j10) fun w =>
 (z6k (w, j5, j6, j7, j8, j9) j j2 j3 j4).bind fun r =>
 bif r then
 bif Nat.beq (List.length j10) (List.length j10) then
 some (3, j, j2, j3, j4, j5, j6, j7, j8, j9, j10)
 else none
 else
 winK j10 0 (List.length j10) fun w2 =>
 (z4g (w2, j5, j6, j7, j8, j9)).bind fun r2 =>
 (zci records (W64 (r2 * 256))).bind fun r3 =>
 bif neI r3.2 0 then
 bif Nat.beq (List.length j10) (List.length j10) then
 some (r3.2, j, j2, j3, j4, j5, j6, j7, j8, j9, j10)
 else none
 else
 z0j (List.length records) (
 bif eqI (List.length records : Nat) 0 then
 bif Nat.beq (List.length j10) (List.length j10) then
 some (r3.2, j, j2, j3, j4, j5, j6, j7, j8, j9, j10)
 else none
 else
 z0j (List.length j2) (
 (zdv ([j2, r3.1] : List (List Int))).bind fun r4 =>
 z0j (List.length records) (
 bif Nat.beq (List.length j10) (List.length j10) then
 (z8p j.2.1 (List.length j2 : Nat) r4 (W64 (j3 + (List.length records : Nat))) j j2 j3 j4 j5 j6 j7 j8 j9 j10).bind fun r5 =>
 bif Nat.beq (List.length r5.2.2.2.2.2.2.2.2.2.2) (List.length r5.2.2.2.2.2.2.2.2.2.2) then
 some (r5.1, r5.2.1, r5.2.2.1, r5.2.2.2.1, r5.2.2.2.2.1, r5.2.2.2.2.2.1, r5.2.2.2.2.2.2.1, r5.2.2.2.2.2.2.2.1, r5.2.2.2.2.2.2.2.2.1, r5.2.2.2.2.2.2.2.2.2.1, r5.2.2.2.2.2.2.2.2.2.2)
 else none
 else none)))
def zd3 : Sig := ⟨11, [.pt 0 r6 [], .d c5], [.var 75 (.ag [.pt 1 r0 [], .d c4, .d (.sl (.int .u8)), .d (.int .i64), .d .bool]), .var 71 (.ag [.wn 2 c1, .d c2, .d (.int .i64), .d c3, .d (.int .i64), .d .bool]), .row 86 c1], 2, zl2⟩
def zcg (x : (List (List Int)) × T2 × (List Int) × Int × Bool × (List T0) × Int × T1 × Int × Bool × (List (List Int))) : Option ((Int × T2 × (List Int) × Int × Bool × (List T0) × Int × T1 × Int × Bool × (List (List Int)))) := z1l x.1 x.2.1 x.2.2.1 x.2.2.2.1 x.2.2.2.2.1 x.2.2.2.2.2.1 x.2.2.2.2.2.2.1 x.2.2.2.2.2.2.2.1 x.2.2.2.2.2.2.2.2.1 x.2.2.2.2.2.2.2.2.2.1 x.2.2.2.2.2.2.2.2.2.2
theorem zit : FnOK Try.prog zd3 zcg :=
 fn_ok ztz (h := (.two .no (.two .no (.two .no (.two .no (.two (.reg [] [25, 0, 1]) .no)))))) Try.func11 (z0d [] (by kernel_rfl) trivial) (by kernel_rfl) zsl (fun x => by kernel_rfl)
def zwq : Env := ⟨[(entQ z5t z4s)], [], []⟩
theorem zt6 : EnvsOK Try.prog zwq := ⟨z0c (z0h z6v) (z0i _), z0e _, z0f _⟩
def zgy : Shp := ⟨1, 0, [(0, .d (.int .i64))], []⟩
def zja : XS := .one .ret zgy.xe
theorem zrs : zja.OK := XS.one_ok (z0a zgy)
def zai (j : T3) (j2 : T2) (j3 : List Int) (j4 : Int) (j5 : Bool) : Option ((Int)) :=
 (z4g j).bind fun r =>
 z0j (List.length j3) (
 some (W64 ((W64 (r * 256)) - (List.length j3 : Nat))))
def zif : Sig := ⟨13, [.rf (.ag [.rf (.d c8), .d c4, .d (.sl (.int .u8)), .d (.int .i64), .d .bool])], [], 0, zja⟩
def zho (x : T3 × T2 × (List Int) × Int × Bool) : Option ((Int)) := zai x.1 x.2.1 x.2.2.1 x.2.2.2.1 x.2.2.2.2
theorem zuu : FnOK Try.prog zif zho :=
 fn_ok zt6 (h := .no) Try.func13 (z0d [] (by kernel_rfl) trivial) (by kernel_rfl) zrs (fun x => by kernel_rfl)
def zxa : Env := ⟨[], [], []⟩
theorem zur : EnvsOK Try.prog zxa := ⟨z0i _, z0e _, z0f _⟩
def zhn : Shp := ⟨1, 0, [(0, .d (.int .i64))], []⟩
def zl9 : XS := .one .ret zhn.xe
theorem zsi : zl9.OK := XS.one_ok (z0a zhn)
def zf4 (j : T3) (j2 : T2) (j3 : List Int) (j4 : Int) (j5 : Bool) : Option ((Int)) :=
 some j4
def zky : Sig := ⟨14, [.rf (.ag [.rf (.d c8), .d c4, .d (.sl (.int .u8)), .d (.int .i64), .d .bool])], [], 0, zl9⟩
def zk3 (x : T3 × T2 × (List Int) × Int × Bool) : Option ((Int)) := zf4 x.1 x.2.1 x.2.2.1 x.2.2.2.1 x.2.2.2.2
theorem zvj : FnOK Try.prog zky zk3 :=
 fn_ok zur (h := .no) Try.func14 (z0d [] (by kernel_rfl) trivial) (by kernel_rfl) zsi (fun x => by kernel_rfl)
def z1fh : Env := ⟨[(entQ zmb zl0), (entQ znw zlu), (entQ zif zho), (entQ zky zk3)], [(entP zqn zoj), (entP zn3 zlg), (entP zd9 zcf), (entP zn1 zlc), (entP zd3 zcg)], []⟩
theorem z1c1 : EnvsOK Try.prog z1fh := ⟨z0c (z0h zxi) (z0c (z0h zyt) (z0c (z0h zuu) (z0c (z0h zvj) (z0i _)))), z0k (z0o zyq) (z0k (z0o ztj) (z0k (z0o zjz) (z0k (z0o ztq) (z0k (z0o zit) (z0e _))))), z0f _⟩
def zvg : Shp := ⟨72, 0, [(1, .c .nilp)], []⟩
def zx4 : Shp := ⟨72, 0, [(1, .pt 0 r0 [])], [.var 71 (.ag [.wn 1 c1, .d c2, .d (.int .i64), .d c3, .d (.int .i64), .d .bool]), .row 86 c1]⟩
def zq8 : XS := .or .normal zvg.xe (.one .normal zx4.xe)
theorem z18h : zq8.OK := XS.or_ok (z0a zvg) (XS.one_ok (z0a zx4))
def zsd : Shp := ⟨72, 0, [(1, .c .nilp), (3, .c .nilp), (4, .d c5), (5, .d (.int .i64))], []⟩
def zsa : Shp := ⟨72, 0, [(1, .c .nilp), (3, .pt 0 r6 []), (4, .wn 1 (.sl (.int .u8))), (5, .d (.int .i64))], [.var 75 (.ag [.c .nilp, .d c4, .d (.sl (.int .u8)), .d (.int .i64), .d .bool]), .row 34 (.sl (.int .u8))]⟩
def zna : XS := .or .normal zsd.xe (.one .normal zsa.xe)
theorem z14f : zna.OK := XS.or_ok (z0a zsd) (XS.one_ok (z0a zsa))
def ztl : Shp := ⟨72, 0, [(1, .c .nilp)], []⟩
def zml : Shp := ⟨72, 0, [(3, .pt 0 r6 []), (4, .d c5), (5, .d (.int .i64))], [.var 75 (.ag [.c .nilp, .d c4, .d (.sl (.int .u8)), .d (.int .i64), .d .bool])]⟩
def zgb : XS := .one .normal zml.xe
theorem zxq : zgb.OK := XS.one_ok (z0a zml)
def zo3 : Shp := ⟨72, 0, [(1, .c .nilp), (3, .pt 0 r6 [])], [.var 75 (.ag [.c .nilp, .d c4, .d (.sl (.int .u8)), .d (.int .i64), .d .bool])]⟩
def zp9 : Shp := ⟨72, 0, [(1, .pt 0 r0 []), (3, .c .nilp), (4, .d c5), (5, .d (.int .i64))], [.var 71 (.ag [.wn 1 c1, .d c2, .d (.int .i64), .d c3, .d (.int .i64), .d .bool]), .row 86 c1]⟩
def zpa : Shp := ⟨72, 0, [(1, .pt 0 r0 []), (3, .pt 1 r6 []), (4, .wn 2 (.sl (.int .u8))), (5, .d (.int .i64))], [.var 71 (.ag [.wn 3 c1, .d c2, .d (.int .i64), .d c3, .d (.int .i64), .d .bool]), .var 75 (.ag [.pt 0 r0 [], .d c4, .d (.sl (.int .u8)), .d (.int .i64), .d .bool]), .row 34 (.sl (.int .u8)), .row 86 c1]⟩
def zj8 : XS := .or .normal zp9.xe (.one .normal zpa.xe)
theorem zzx : zj8.OK := XS.or_ok (z0a zp9) (XS.one_ok (z0a zpa))
def zj7 : Shp := ⟨72, 0, [(3, .pt 0 r6 []), (4, .d c5), (5, .d (.int .i64))], [.var 75 (.ag [.pt 1 r0 [], .d c4, .d (.sl (.int .u8)), .d (.int .i64), .d .bool]), .var 71 (.ag [.wn 2 c1, .d c2, .d (.int .i64), .d c3, .d (.int .i64), .d .bool]), .row 86 c1]⟩
def zed : XS := .one .normal zj7.xe
theorem zts : zed.OK := XS.one_ok (z0a zj7)
def zxy : Shp := ⟨1, 0, [(0, .d .bool)], []⟩
def z13v : XS := .one .ret zxy.xe
theorem z1a5 : z13v.OK := XS.one_ok (z0a zxy)
def zh6  : Option ((Bool)) :=
 (show Option ((Unit) ⊕ ((List T0) × Int × T1 × Int × Bool × (List (List Int)))) from
 (zfg 6).bind fun r =>
 Sum.elim (fun y =>
 some (.inl ())) (fun y2 =>
 bif Nat.beq (List.length y2.2.2.2.2.2.2) (List.length y2.2.2.2.2.2.2) then
 some (.inr (y2.2.1, y2.2.2.1, y2.2.2.2.1, y2.2.2.2.2.1, y2.2.2.2.2.2.1, y2.2.2.2.2.2.2))
 else none) r).bind fun j =>
 Sum.elim (fun y3 =>
 (show Option (((List (List Int)) × Int) ⊕ (Int × T2 × (List Int) × Int × Bool × (List (List Int)))) from
 (zc8).bind fun r2 =>
 Sum.elim (fun y5 =>
 some (.inl (y5.1, y5.2))) (fun y6 =>
 bif Nat.beq (List.length y6.2.2.2.2.2) (List.length y6.2.2.2.2.2) then
 some (.inr (y6.1, y6.2.1, y6.2.2.1, y6.2.2.2.1, y6.2.2.2.2.1, y6.2.2.2.2.2))
 else none) r2).bind fun j2 =>
 Sum.elim (fun y7 =>
 some false) (fun y8 =>
 z0j (List.length y8.2.2.2.2.2) (
 bif neI (List.length y8.2.2.2.2.2 : Nat) 0 then
 some false
 else
 bif neI y8.1 0 then
 some false
 else
 winK ([97, 98] : List Int) 0 (List.length ([97, 98] : List Int)) fun w =>
 (zb4 ([w, []] : List (List Int)) y8.2.1 y8.2.2.1 y8.2.2.2.1 y8.2.2.2.2.1).bind fun r3 =>
 bif neI r3.1 0 then
 some false
 else
 (show Option (((List (List Int)) × Int × T2 × (List Int) × Int × Bool)) from
 (zc8).bind fun r4 =>
 Sum.elim (fun y9 =>
 some (y9.1, y9.2, r3.2.1, r3.2.2.1, r3.2.2.2.1, r3.2.2.2.2)) (fun y10 =>
 winK y10.2.2.2.2.2 0 (List.length y10.2.2.2.2.2) fun w2 =>
 some (w2, y10.1, r3.2.1, r3.2.2.1, r3.2.2.2.1, r3.2.2.2.2)) r4).bind fun j3 =>
 bif eqI j3.2.1 0 then
 z0j (List.length j3.1) (
 bif eqI (List.length j3.1 : Nat) 2 then
 (idxI j3.1 0).bind fun x =>
 bif eqS x ([97, 98] : List Int) then
 (idxI j3.1 1).bind fun x2 =>
 z0j (List.length x2) (
 bif eqI (List.length x2 : Nat) 0 then
 (zoz j3.2.2.1 j3.2.2.2.1 j3.2.2.2.2.1 j3.2.2.2.2.2).bind fun r5 =>
 bif eqI r5 500 then
 (zpv j3.2.2.1 j3.2.2.2.1 j3.2.2.2.2.1 j3.2.2.2.2.2).bind fun r6 =>
 some (eqI r6 2)
 else
 some false
 else
 some false)
 else
 some false
 else
 some false)
 else
 some false)) j2) (fun y4 =>
 (show Option (((List (List Int)) × Int × (List T0) × Int × T1 × Int × Bool × (List (List Int))) ⊕ (Int × (List T0) × Int × T1 × Int × Bool × T2 × (List Int) × Int × Bool × (List (List Int)) × (List (List Int)))) from
 bif Nat.beq (List.length y4.2.2.2.2.2) (List.length y4.2.2.2.2.2) then
 (z1y y4.1 y4.2.1 y4.2.2.1 y4.2.2.2.1 y4.2.2.2.2.1 y4.2.2.2.2.2).bind fun r7 =>
 Sum.elim (fun y11 =>
 bif Nat.beq (List.length y11.2.2.2.2.2.2.2) (List.length y11.2.2.2.2.2.2.2) then
 some (.inl (y11.1, y11.2.1, y11.2.2.1, y11.2.2.2.1, y11.2.2.2.2.1, y11.2.2.2.2.2.1, y11.2.2.2.2.2.2.1, y11.2.2.2.2.2.2.2))
 else none) (fun y12 =>
 bif Nat.beq (List.length y12.2.2.2.2.2.2.2.2.2.2.1) (List.length y12.2.2.2.2.2.2.2.2.2.2.1) then
 bif Nat.beq (List.length y12.2.2.2.2.2.2.2.2.2.2.2) (List.length y12.2.2.2.2.2.2.2.2.2.2.2) then
 some (.inr (y12.1, y12.2.1, y12.2.2.1, y12.2.2.2.1, y12.2.2.2.2.1, y12.2.2.2.2.2.1, y12.2.2.2.2.2.2.1, y12.2.2.2.2.2.2.2.1, y12.2.2.2.2.2.2.2.2.1, y12.2.2.2.2.2.2.2.2.2.1, y12.2.2.2.2.2.2.2.2.2.2.1, y12.2.2.2.2.2.2.2.2.2.2.2))
 else none
 else none) r7
 else none).bind fun j4 =>
 Sum.elim (fun y13 =>
 some false) (fun y14 =>
 z0j (List.length y14.2.2.2.2.2.2.2.2.2.2.1) (
 bif neI (List.length y14.2.2.2.2.2.2.2.2.2.2.1 : Nat) 0 then
 some false
 else
 bif neI y14.1 0 then
 some false
 else
 winK ([97, 98] : List Int) 0 (List.length ([97, 98] : List Int)) fun w3 =>
 bif Nat.beq (List.length y14.2.2.2.2.2.2.2.2.2.2.2) (List.length y14.2.2.2.2.2.2.2.2.2.2.2) then
 (z1l ([w3, []] : List (List Int)) y14.2.2.2.2.2.2.1 y14.2.2.2.2.2.2.2.1 y14.2.2.2.2.2.2.2.2.1 y14.2.2.2.2.2.2.2.2.2.1 y14.2.1 y14.2.2.1 y14.2.2.2.1 y14.2.2.2.2.1 y14.2.2.2.2.2.1 y14.2.2.2.2.2.2.2.2.2.2.2).bind fun r8 =>
 bif neI r8.1 0 then
 some false
 else
 (show Option (((List (List Int)) × Int × T2 × (List Int) × Int × Bool × (List T0) × Int × T1 × Int × Bool × (List (List Int)))) from
 bif Nat.beq (List.length r8.2.2.2.2.2.2.2.2.2.2) (List.length r8.2.2.2.2.2.2.2.2.2.2) then
 (z1y r8.2.2.2.2.2.1 r8.2.2.2.2.2.2.1 r8.2.2.2.2.2.2.2.1 r8.2.2.2.2.2.2.2.2.1 r8.2.2.2.2.2.2.2.2.2.1 r8.2.2.2.2.2.2.2.2.2.2).bind fun r9 =>
 Sum.elim (fun y15 =>
 bif Nat.beq (List.length y15.2.2.2.2.2.2.2) (List.length y15.2.2.2.2.2.2.2) then
 some (y15.1, y15.2.1, r8.2.1, r8.2.2.1, r8.2.2.2.1, r8.2.2.2.2.1, y15.2.2.1, y15.2.2.2.1, y15.2.2.2.2.1, y15.2.2.2.2.2.1, y15.2.2.2.2.2.2.1, y15.2.2.2.2.2.2.2)
 else none) (fun y16 =>
 winK y16.2.2.2.2.2.2.2.2.2.2.1 0 (List.length y16.2.2.2.2.2.2.2.2.2.2.1) fun w4 =>
 bif Nat.beq (List.length y16.2.2.2.2.2.2.2.2.2.2.2) (List.length y16.2.2.2.2.2.2.2.2.2.2.2) then
 some (w4, y16.1, r8.2.1, r8.2.2.1, r8.2.2.2.1, r8.2.2.2.2.1, y16.2.1, y16.2.2.1, y16.2.2.2.1, y16.2.2.2.2.1, y16.2.2.2.2.2.1, y16.2.2.2.2.2.2.2.2.2.2.2)
 else none) r9
 else none).bind fun j5 =>
 bif eqI j5.2.1 0 then
 z0j (List.length j5.1) (
 bif eqI (List.length j5.1 : Nat) 2 then
 (idxI j5.1 0).bind fun x3 =>
 bif eqS x3 ([97, 98] : List Int) then
 (idxI j5.1 1).bind fun x4 =>
 z0j (List.length x4) (
 bif eqI (List.length x4 : Nat) 0 then
 winK j5.2.2.2.2.2.2.2.2.2.2.2 0 (List.length j5.2.2.2.2.2.2.2.2.2.2.2) fun w5 =>
 (zai (w5, j5.2.2.2.2.2.2.1, j5.2.2.2.2.2.2.2.1, j5.2.2.2.2.2.2.2.2.1, j5.2.2.2.2.2.2.2.2.2.1, j5.2.2.2.2.2.2.2.2.2.2.1) j5.2.2.1 j5.2.2.2.1 j5.2.2.2.2.1 j5.2.2.2.2.2.1).bind fun r10 =>
 bif eqI r10 500 then
 winK j5.2.2.2.2.2.2.2.2.2.2.2 0 (List.length j5.2.2.2.2.2.2.2.2.2.2.2) fun w6 =>
 (zf4 (w6, j5.2.2.2.2.2.2.1, j5.2.2.2.2.2.2.2.1, j5.2.2.2.2.2.2.2.2.1, j5.2.2.2.2.2.2.2.2.2.1, j5.2.2.2.2.2.2.2.2.2.2.1) j5.2.2.1 j5.2.2.2.1 j5.2.2.2.2.1 j5.2.2.2.2.2.1).bind fun r11 =>
 some (eqI r11 2)
 else
 some false
 else
 some false)
 else
 some false
 else
 some false)
 else
 some false
 else none)) j4) j
def z13r : Sig := ⟨8, [], [], 0, z13v⟩
def z11b (x : Unit) : Option ((Bool)) := zh6 
theorem z1dh : FnOK Try.prog z13r z11b :=
 fn_ok z1c1 (h := (.two .no (.join (fun _ => zq8) .no (.join (altX ztl.fit (fun _ => zna) (fun _ => zj8)) .no (.two (.two (.reg [13, 2000015] []) .no) (.join (altX zo3.fit (fun _ => zgb) (fun _ => zed)) .no .no)))))) Try.func8 (z0d [.xs (fun _ => zq8), .xs (altX ztl.fit (fun _ => zna) (fun _ => zj8)), .xs (altX zo3.fit (fun _ => zgb) (fun _ => zed))] (by kernel_rfl) ⟨(z4b z18h), (znq (z4b z14f) (z4b zzx)), (znq (z4b zxq) (z4b zts)), trivial⟩) (by kernel_rfl) z1a5 (fun x => by kernel_rfl)
def zst : Env := ⟨[], [], []⟩
theorem zq7 : EnvsOK Try.prog zst := ⟨z0i _, z0e _, z0f _⟩
def zf5 : Shp := ⟨1, 0, [(0, .d .bool)], []⟩
def zgs : XS := .one .ret zf5.xe
theorem zpi : zgs.OK := XS.one_ok (z0a zf5)
def zcb  : Option ((Bool)) :=
 some true
def zbj : Sig := ⟨15, [.c .nilp], [], 0, zgs⟩
def zas (x : Unit) : Option ((Bool)) := zcb 
theorem zfw : FnOK Try.prog zbj zas :=
 fn_ok zq7 (h := .no) Try.func15 (z0d [] (by kernel_rfl) trivial) (by kernel_rfl) zpi (fun x => by kernel_rfl)
def zxb : Env := ⟨[(entQ zbj zas)], [], []⟩
theorem zus : EnvsOK Try.prog zxb := ⟨z0c (z0h zfw) (z0i _), z0e _, z0f _⟩
def zhz : Shp := ⟨1, 0, [(0, .d (.int .i64))], []⟩
def zl8 : XS := .one .ret zhz.xe
theorem zt1 : zl8.OK := XS.one_ok (z0a zhz)
def z8s (records : List (List Int)) : Option ((Int)) :=
 (zcb).bind fun r =>
 bif r then
 some 3
 else
 none
def zkm : Sig := ⟨11, [.c .nilp, .d c5], [], 0, zl8⟩
def zi9 (x : (List (List Int))) : Option ((Int)) := z8s x
theorem zwg : FnOK Try.prog zkm zi9 :=
 fn_ok zus (h := .no) Try.func11 (z0d [] (by kernel_rfl) trivial) (by kernel_rfl) zt1 (fun x => by kernel_rfl)
def zsb : Env := ⟨[(entQ zcp zbz), (entQ z7k z6p), (entQ zez zdg)], [(entP zd8 zc9)], []⟩
theorem zpp : EnvsOK Try.prog zsb := ⟨z0c (z0h zhi) (z0c (z0h z8q) (z0c (z0h zi2) (z0i _))), z0k (z0o zjs) (z0e _), z0f _⟩
def zeo : Shp := ⟨1, 1, [(0, .d (.int .i64))], [.var 75 (.ag [.c .nilp, .d c4, .d (.sl (.int .u8)), .d (.int .i64), .d .bool])]⟩
def zft : XS := .one .ret zeo.xe
theorem zpb : zft.OK := XS.one_ok (z0a zeo)
def zhf (records : List (List Int)) (j : T2) (j2 : List Int) (j3 : Int) (j4 : Bool) : Option ((Int × T2 × (List Int) × Int × Bool)) :=
 (zea j j2 j3 j4).bind fun r =>
 bif r then
 some (3, j, j2, j3, j4)
 else
 (z9f).bind fun r2 =>
 (zci records (W64 (r2 * 256))).bind fun r3 =>
 bif neI r3.2 0 then
 some (r3.2, j, j2, j3, j4)
 else
 z0j (List.length records) (
 (zew (W64 (1 - j.2.1)) 0 r3.1 (List.length records : Nat) j j2 j3 j4).bind fun r4 =>
 some (r4.1, r4.2.1, r4.2.2.1, r4.2.2.2.1, r4.2.2.2.2))
def zfp : Sig := ⟨12, [.pt 0 r6 [], .d c5], [.var 75 (.ag [.c .nilp, .d c4, .d (.sl (.int .u8)), .d (.int .i64), .d .bool])], 1, zft⟩
def zfc (x : (List (List Int)) × T2 × (List Int) × Int × Bool) : Option ((Int × T2 × (List Int) × Int × Bool)) := zhf x.1 x.2.1 x.2.2.1 x.2.2.2.1 x.2.2.2.2
theorem zqe : FnOK Try.prog zfp zfc :=
 fn_ok zpp (h := .no) Try.func12 (z0d [] (by kernel_rfl) trivial) (by kernel_rfl) zpb (fun x => by kernel_rfl)
def zs3 : Env := ⟨[(entQ zbj zas)], [], []⟩
theorem zpl : EnvsOK Try.prog zs3 := ⟨z0c (z0h zfw) (z0i _), z0e _, z0f _⟩
def zek : Shp := ⟨1, 0, [(0, .d (.int .i64))], []⟩
def zfx : XS := .one .ret zek.xe
theorem zom : zfx.OK := XS.one_ok (z0a zek)
def zbv (records : List (List Int)) : Option ((Int)) :=
 (zcb).bind fun r =>
 bif r then
 some 3
 else
 none
def zfy : Sig := ⟨12, [.c .nilp, .d c5], [], 0, zfx⟩
def zfi (x : (List (List Int))) : Option ((Int)) := zbv x
theorem zr1 : FnOK Try.prog zfy zfi :=
 fn_ok zpl (h := .no) Try.func12 (z0d [] (by kernel_rfl) trivial) (by kernel_rfl) zom (fun x => by kernel_rfl)
def zzw : Env := ⟨[(entQ zct zby)], [], []⟩
theorem zxs : EnvsOK Try.prog zzw := ⟨z0c (z0h zgj) (z0i _), z0e _, z0f _⟩
def zkt : Shp := ⟨1, 0, [(0, .tu [])], []⟩
def zo0 : XS := .one .ret zkt.xe
theorem zwd : zo0.OK := XS.one_ok (z0a zkt)
def zha (c : T1) : Option ((Unit)) :=
 (zeu).bind fun r =>
 bif r then
 some ()
 else
 none
def znx : Sig := ⟨17, [.c .nilp, .d c3], [], 0, zo0⟩
def zmh (x : T1) : Option ((Unit)) := zha x
theorem zyw : FnOK Try.prog znx zmh :=
 fn_ok zxs (h := .no) Try.func17 (z0d [] (by kernel_rfl) trivial) (by kernel_rfl) zwd (fun x => by kernel_rfl)
def zrk : Env := ⟨[(entQ zbn zal), (entQ z5t z4s), (entQ zez zdg)], [(entP zd4 zck)], []⟩
theorem zpn : EnvsOK Try.prog zrk := ⟨z0c (z0h zg1) (z0c (z0h z6v) (z0c (z0h zi2) (z0i _))), z0k (z0o zik) (z0e _), z0f _⟩
def zep : Shp := ⟨1, 2, [(0, .d (.int .i64))], [.var 75 (.ag [.pt 1 r0 [], .d c4, .d (.sl (.int .u8)), .d (.int .i64), .d .bool]), .var 71 (.ag [.wn 2 c1, .d c2, .d (.int .i64), .d c3, .d (.int .i64), .d .bool]), .row 86 c1]⟩
def zg3 : XS := .one .ret zep.xe
theorem zou : zg3.OK := XS.one_ok (z0a zep)
def z6a (records : List (List Int)) (j : T2) (j2 : List Int) (j3 : Int) (j4 : Bool) (j5 : List T0) (j6 : Int) (j7 : T1) (j8 : Int) (j9 : Bool) (j10 : List (List Int)) : Option ((Int × T2 × (List Int) × Int × Bool × (List T0) × Int × T1 × Int × Bool × (List (List Int)))) :=
 winK j10 0 (List.length j10) fun w =>
 (z6k (w, j5, j6, j7, j8, j9) j j2 j3 j4).bind fun r =>
 bif r then
 bif Nat.beq (List.length j10) (List.length j10) then
 some (3, j, j2, j3, j4, j5, j6, j7, j8, j9, j10)
 else none
 else
 winK j10 0 (List.length j10) fun w2 =>
 (z4g (w2, j5, j6, j7, j8, j9)).bind fun r2 =>
 (zci records (W64 (r2 * 256))).bind fun r3 =>
 bif neI r3.2 0 then
 bif Nat.beq (List.length j10) (List.length j10) then
 some (r3.2, j, j2, j3, j4, j5, j6, j7, j8, j9, j10)
 else none
 else
 z0j (List.length records) (
 bif Nat.beq (List.length j10) (List.length j10) then
 (z8p (W64 (1 - j.2.1)) 0 r3.1 (List.length records : Nat) j j2 j3 j4 j5 j6 j7 j8 j9 j10).bind fun r4 =>
 bif Nat.beq (List.length r4.2.2.2.2.2.2.2.2.2.2) (List.length r4.2.2.2.2.2.2.2.2.2.2) then
 some (r4.1, r4.2.1, r4.2.2.1, r4.2.2.2.1, r4.2.2.2.2.1, r4.2.2.2.2.2.1, r4.2.2.2.2.2.2.1, r4.2.2.2.2.2.2.2.1, r4.2.2.2.2.2.2.2.2.1, r4.2.2.2.2.2.2.2.2.2.1, r4.2.2.2.2.2.2.2.2.2.2)
 else none
 else none)
def zfq : Sig := ⟨12, [.pt 0 r6 [], .d c5], [.var 75 (.ag [.pt 1 r0 [], .d c4, .d (.sl (.int .u8)), .d (.int .i64), .d .bool]), .var 71 (.ag [.wn 2 c1, .d c2, .d (.int .i64), .d c3, .d (.int .i64), .d .bool]), .row 86 c1], 2, zg3⟩
def zf9 (x : (List (List Int)) × T2 × (List Int) × Int × Bool × (List T0) × Int × T1 × Int × Bool × (List (List Int))) : Option ((Int × T2 × (List Int) × Int × Bool × (List T0) × Int × T1 × Int × Bool × (List (List Int)))) := z6a x.1 x.2.1 x.2.2.1 x.2.2.2.1 x.2.2.2.2.1 x.2.2.2.2.2.1 x.2.2.2.2.2.2.1 x.2.2.2.2.2.2.2.1 x.2.2.2.2.2.2.2.2.1 x.2.2.2.2.2.2.2.2.2.1 x.2.2.2.2.2.2.2.2.2.2
theorem zqc : FnOK Try.prog zfq zf9 :=
 fn_ok zpn (h := .no) Try.func12 (z0d [] (by kernel_rfl) trivial) (by kernel_rfl) zou (fun x => by kernel_rfl)
def z1gz : Env := ⟨[], [], []⟩
theorem zqg : EnvsOK Try.prog z1gz := ⟨z0i _, z0e _, z0f _⟩
def z8v : Shp := ⟨49, 0, [(20, .d c11), (21, .d (.int .i64)), (22, .d (.int .i64)), (31, .pt 0 r12 [.fld 3]), (32, .pt 0 r12 [.fld 3, .fld 0]), (33, .d (.sl (.int .i64))), (34, .d (.int .i64)), (35, .d .bool)], [.var 44 (.d c13)]⟩
def z8r : Shp := ⟨49, 0, [(4, .d .bool)], []⟩
def z1g : XS := .or (.exit 2) z8v.xe (.one .ret z8r.xe)
theorem zet : z1g.OK := XS.or_ok (z0a z8v) (XS.one_ok (z0a z8r))
def z1e : Shp := ⟨49, 0, [(20, .d c11), (21, .d (.int .i64)), (22, .d (.int .i64)), (31, .pt 0 r12 [.fld 3]), (32, .pt 0 r12 [.fld 3, .fld 0]), (33, .d (.sl (.int .i64))), (34, .d (.int .i64)), (35, .d .bool), (38, .d c5), (39, .d (.int .i64)), (40, .d (.int .i64))], [.var 44 (.d c13)]⟩
abbrev z4t := (List T4) × Int × Int × (List Int) × Int × Bool × (List (List Int)) × Int × Int × T4
abbrev z9l := ((List T4) × Int × Int × (List Int) × Int × Bool × T4) ⊕ (Bool)
def z1f (t20 : List T4) (t21 : Int) (t22 : Int) (t33 : List Int) (t34 : Int) (t35 : Bool) (t38 : List (List Int)) (t39 : Int) (t40 : Int) (t31 : T4) : Option (z4t ⊕ z9l) :=
 bif ltI t40 t39 then
 (idxI t38 t40).bind fun x =>
 z0j (List.length x) (
 bif ltI 2000 (List.length x : Nat) then
 some (.inr (.inr false))
 else
 some (.inl (t20, t21, t22, t33, t34, t35, t38, t39, W64 (t40 + 1), t31)))
 else
 some (.inr (.inl (t20, t21, t22, t33, t34, t35, t31)))
def z0v (s : z4t) : Option (z4t ⊕ z9l) := z1f s.1 s.2.1 s.2.2.1 s.2.2.2.1 s.2.2.2.2.1 s.2.2.2.2.2.1 s.2.2.2.2.2.2.1 s.2.2.2.2.2.2.2.1 s.2.2.2.2.2.2.2.2.1 s.2.2.2.2.2.2.2.2.2
theorem zfj : SoundD Try.prog (.loop (subC (bodyC Try.f18) [1, 1, 0, 1, 0, 0, 1, 1, 0, 0, 1, 1, 1, 0, 0])) (loopD z1e.xe z1g (loopC z0v)) :=
 z1c (S := z1e.xe) (X := z1g) zqg (h := .no) (z0d [] (by kernel_rfl) trivial) (z0a z1e) zet z0v (fun s => by kernel_rfl)
def zk0 : Shp := ⟨49, 0, [], []⟩
def zj2 : Shp := ⟨49, 0, [(4, .d .bool)], []⟩
def z7y : XS := .or (.exit 0) zk0.xe (.one .ret zj2.xe)
theorem zuq : z7y.OK := XS.or_ok (z0a zk0) (XS.one_ok (z0a zj2))
def z8g : Shp := ⟨49, 0, [(20, .d c11), (21, .d (.int .i64)), (22, .d (.int .i64))], []⟩
abbrev ze8 := (List T4) × Int × Int
abbrev zm3 := (Unit) ⊕ (Bool)
def z7v (t20 : List T4) (t21 : Int) (t22 : Int) : Option (ze8 ⊕ zm3) :=
 bif ltI t22 t21 then
 (idxI t20 t22).bind fun x =>
 z0j (List.length x.2.1) (
 bif ltI 6 (List.length x.2.1 : Nat) then
 some (.inr (.inr false))
 else
 z0j (List.length x.2.2.2.1) (
 bif ltI 70 (List.length x.2.2.2.1 : Nat) then
 some (.inr (.inr false))
 else
 z0j (List.length x.2.1) (
 (loopC z0v (t20, t21, t22, x.2.2.2.1, (List.length x.2.2.2.1 : Nat), ltI 70 (List.length x.2.2.2.1 : Nat), x.2.1, (List.length x.2.1 : Nat), 0, x)).bind fun o =>
 Sum.elim (fun y =>
 some (.inl (y.1, y.2.1, W64 (y.2.2.1 + 1)))) (fun y2 =>
 some (.inr (.inr y2))) o)))
 else
 some (.inr (.inl ()))
def z7w (s : ze8) : Option (ze8 ⊕ zm3) := z7v s.1 s.2.1 s.2.2
theorem zwm : SoundD Try.prog (.loop (subC (bodyC Try.f18) [1, 1, 0, 1, 0, 0])) (loopD z8g.xe z7y (loopC z7w)) :=
 z1c (S := z8g.xe) (X := z7y) zqg (h := (.two .no (.two .no (.two (.two .no (.two .no (.two .no (.over (loopD z1e.xe z1g (loopC z0v)))))) .no)))) (z0d [.den (.loop (subC (bodyC Try.f18) [1, 1, 0, 1, 0, 0, 1, 1, 0, 0, 1, 1, 1, 0, 0])) (loopD z1e.xe z1g (loopC z0v))] (by kernel_rfl) ⟨zfj, trivial⟩) (z0a z8g) zuq z7w (fun s => by kernel_rfl)
def zzs : Shp := ⟨1, 0, [(0, .d .bool)], []⟩
def z16u : XS := .one .ret zzs.xe
theorem z1bm : z16u.OK := XS.one_ok (z0a zzs)
def zut (sectors : Int) (script : List T4) : Option ((Bool)) :=
 bif ltI sectors 6 then
 some false
 else
 bif ltI 14 sectors then
 some false
 else
 z0j (List.length script) (
 bif ltI 30 (List.length script : Nat) then
 some false
 else
 z0j (List.length script) (
 (loopC z7w (script, (List.length script : Nat), 0)).bind fun o =>
 Sum.elim (fun y =>
 some true) (fun y2 =>
 some y2) o))
def z16o : Sig := ⟨18, [.d (.int .i64), .d c11], [], 0, z16u⟩
def z13t (x : Int × (List T4)) : Option ((Bool)) := zut x.1 x.2
theorem z1ft : FnOK Try.prog z16o z13t :=
 fn_ok zqg (h := (.two .no (.two .no (.two (.two .no (.over (loopD z8g.xe z7y (loopC z7w)))) .no)))) Try.func18 (z0d [.den (.loop (subC (bodyC Try.f18) [1, 1, 0, 1, 0, 0])) (loopD z8g.xe z7y (loopC z7w))] (by kernel_rfl) ⟨zwm, trivial⟩) (by kernel_rfl) z1bm (fun x => by kernel_rfl)
end Go.Proofs.Ytpfjfldagldgnaa