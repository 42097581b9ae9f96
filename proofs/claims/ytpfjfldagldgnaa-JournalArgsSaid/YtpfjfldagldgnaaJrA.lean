import Derived.Test.YtpfjfldagldgnaaTm21to25
import Derived.Test.YtpfjfldagldgnaaTm26to30
import Derived.Test.YtpfjfldagldgnaaTm31to34
import Derived.Test.YtpfjfldagldgnaaJrItoJrE
import Derived.Test.YtpfjfldagldgnaaProg
set_option maxRecDepth 100000
set_option linter.unusedVariables false
noncomputable section
namespace Go.Proofs.Ytpfjfldagldgnaa
open Go.Tm Go.Ab
abbrev T0 := Int × (List Int)
abbrev T1 := (List Int) × Int × Int
abbrev T2 := Int × Int × Int
abbrev T3 := (List (List Int)) × (List T0) × Int × T1 × Int × Bool
def r0 : Rt := .one (.st (.cons .leaf (.cons .leaf (.cons .leaf (.cons (.st (.cons .leaf (.cons .leaf (.one .leaf)))) (.cons .leaf (.one .leaf)))))))
def c1 : U := (.arr 256 (.int .u8))
def c2 : U := (.sl (.st (.cons (.int .i64) (.one (.arr 256 (.int .u8))))))
def c3 : U := (.st (.cons (.sl (.int .i64)) (.cons (.int .i64) (.one (.int .i64)))))
def c4 : U := (.st (.cons (.int .u64) (.cons (.int .i64) (.one (.int .i64)))))
def c5 : U := (.sl (.sl (.int .u8)))
def r6 : Rt := .one (.st (.cons .leaf (.cons (.st (.cons .leaf (.cons .leaf (.one .leaf)))) (.cons .leaf (.cons .leaf (.one .leaf))))))
def r7 : Rt := .one (.st (.cons .leaf (.cons .leaf (.one .leaf))))
def c8 : U := (.st (.cons (.sl (.arr 256 (.int .u8))) (.cons (.sl (.st (.cons (.int .i64) (.one (.arr 256 (.int .u8)))))) (.cons (.int .i64) (.cons (.st (.cons (.sl (.int .i64)) (.cons (.int .i64) (.one (.int .i64))))) (.cons (.int .i64) (.one .bool)))))))
def c9 : U := (.st (.cons (.int .i64) (.one (.arr 256 (.int .u8)))))
def r10 : Rt := .one (.st (.cons .leaf (.one (.arr 256 .leaf))))
def r12 : Rt := .one (.st (.cons .leaf (.cons .leaf (.cons .leaf (.one (.st (.cons .leaf (.cons .leaf (.one .leaf)))))))))
def c16 : U := (.st (.cons (.sl .str) (.cons (.sl (.st (.cons (.int .i64) (.one .str)))) (.cons (.int .i64) (.cons (.st (.cons (.sl (.int .i64)) (.cons (.int .i64) (.one (.int .i64))))) (.cons (.int .i64) (.one .bool)))))))
def r17 : Rt := .one (.st (.cons .leaf (.one .leaf)))
def r19 : Rt := .one (.st (.cons (.st (.cons .leaf (.cons .leaf (.cons .leaf (.cons (.st (.cons .leaf (.cons .leaf (.one .leaf)))) (.cons .leaf (.one .leaf))))))) (.cons .leaf (.cons .leaf (.cons .leaf (.cons .leaf (.one .leaf)))))))
def r20 : Rt := .one (.st (.cons .leaf (.cons .leaf (.one (.st (.cons (.st (.cons .leaf (.cons .leaf (.cons .leaf (.cons (.st (.cons .leaf (.cons .leaf (.one .leaf)))) (.cons .leaf (.one .leaf))))))) (.cons .leaf (.cons .leaf (.cons .leaf (.cons .leaf (.one .leaf)))))))))))
def z1c1 : Env := ⟨[], [], []⟩
theorem z18x : EnvsOK Try.prog z1c1 := ⟨z0i _, z0g _, z0f _⟩
def zw8 : Shp := ⟨1, 0, [(0, .tu [.c .nilp, .d (.int .i64)])], []⟩
def zuy : Shp := ⟨1, 0, [(0, .tu [.pt 0 r0 [], .d (.int .i64)])], [.var 71 (.ag [.wn 1 c1, .d c2, .d (.int .i64), .d c3, .d (.int .i64), .d .bool]), .row 86 c1]⟩
def zz1 : XS := .or .ret zw8.xe (.one .ret zuy.xe)
theorem z16g : zz1.OK := XS.or_ok (z0a zw8) (XS.one_ok (z0a zuy))
def zer (sectors : Int) : Option ((Int) ⊕ (Int × (List T0) × Int × T1 × Int × Bool × (List (List Int)))) :=
 bif ltI sectors 1 then
 some (.inl 1)
 else
 bif ltI 4096 sectors then
 some (.inl 1)
 else
 makeG sectors 256 (
 bif Nat.beq sectors.toNat (List.length (List.replicate sectors.toNat (List.replicate 256 (0 : Int)))) then
 some (.inr (0, [], (-1), ([], 0, 0), 0, false, List.replicate sectors.toNat (List.replicate 256 (0 : Int))))
 else none)
def zpx : Sig := ⟨9, [.d (.int .i64)], [], 0, zz1⟩
def zod (x : Int) : Option ((Int) ⊕ (Int × (List T0) × Int × T1 × Int × Bool × (List (List Int)))) := zer x
theorem zxx : FnOK Try.prog zpx zod :=
 fn_ok z18x (h := .no) Try.func9 (z0h [] (by kernel_rfl) trivial) (by kernel_rfl) z16g (fun x => by kernel_rfl)
def z11y : Env := ⟨[], [], []⟩
theorem zy8 : EnvsOK Try.prog z11y := ⟨z0i _, z0g _, z0f _⟩
def zm2 : Shp := ⟨1, 0, [(0, .d (.int .i64))], []⟩
def zot : XS := .one .ret zm2.xe
theorem zww : zot.OK := XS.one_ok (z0a zm2)
def zjg  : Option ((Int)) :=
 some 0
def zg2 : Sig := ⟨30, [.c .nilp], [], 0, zot⟩
def zez (x : Unit) : Option ((Int)) := zjg 
theorem znk : FnOK Try.prog zg2 zez :=
 fn_ok zy8 (h := .no) Try.func30 (z0h [] (by kernel_rfl) trivial) (by kernel_rfl) zww (fun x => by kernel_rfl)
def z16n : Env := ⟨[(entQ zg2 zez)], [], []⟩
theorem z12s : EnvsOK Try.prog z16n := ⟨z0c (z0e znk) (z0i _), z0g _, z0f _⟩
def zpc : Shp := ⟨1, 0, [(0, .d (.int .i64))], []⟩
def zt7 : XS := .one .ret zpc.xe
theorem z11e : zt7.OK := XS.one_ok (z0a zpc)
def z9a  : Option ((Int)) :=
 (zjg).bind fun r =>
 some (W64 (Int.tdiv (W64 (r - 2)) 2))
def z7g : Sig := ⟨31, [.c .nilp], [], 0, zt7⟩
def z6p (x : Unit) : Option ((Int)) := z9a 
theorem z8p : FnOK Try.prog z7g z6p :=
 fn_ok z12s (h := .no) Try.func31 (z0h [] (by kernel_rfl) trivial) (by kernel_rfl) z11e (fun x => by kernel_rfl)
def z12w : Env := ⟨[], [], []⟩
theorem zyr : EnvsOK Try.prog z12w := ⟨z0i _, z0g _, z0f _⟩
def zng : Shp := ⟨1, 0, [(0, .d .bool)], []⟩
def zp8 : XS := .one .ret zng.xe
theorem zye : zp8.OK := XS.one_ok (z0a zng)
def zem  : Option ((Bool)) :=
 some true
def zcg : Sig := ⟨39, [.c .nilp], [], 0, zp8⟩
def zbl (x : Unit) : Option ((Bool)) := zem 
theorem zg4 : FnOK Try.prog zcg zbl :=
 fn_ok zyr (h := .no) Try.func39 (z0h [] (by kernel_rfl) trivial) (by kernel_rfl) zye (fun x => by kernel_rfl)
def z13d : Env := ⟨[(entQ zcg zbl)], [], []⟩
theorem zz9 : EnvsOK Try.prog z13d := ⟨z0c (z0e zg4) (z0i _), z0g _, z0f _⟩
def znj : Shp := ⟨1, 0, [(0, .d (.int .i64))], []⟩
def zpb : XS := .one .ret znj.xe
theorem zyd : zpb.OK := XS.one_ok (z0a znj)
def zla (i : Int) : Option ((Int)) :=
 (zem).bind fun r =>
 bif r then
 some 6
 else
 bif ltI i 0 then
 some 2
 else
 none
def zgz : Sig := ⟨51, [.c .nilp, .d (.int .i64)], [], 0, zpb⟩
def zfu (x : Int) : Option ((Int)) := zla x
theorem zny : FnOK Try.prog zgz zfu :=
 fn_ok zz9 (h := .no) Try.func51 (z0h [] (by kernel_rfl) trivial) (by kernel_rfl) zyd (fun x => by kernel_rfl)
def z11q : Env := ⟨[(entQ zgz zfu)], [], []⟩
theorem zy1 : EnvsOK Try.prog z11q := ⟨z0c (z0e zny) (z0i _), z0g _, z0f _⟩
def zm0 : Shp := ⟨1, 0, [(0, .tu [.d (.sl (.int .u8)), .d (.int .i64)])], []⟩
def zoo : XS := .one .ret zm0.xe
theorem zwj : zoo.OK := XS.one_ok (z0a zm0)
def ziq (i : Int) : Option (((List Int) × Int)) :=
 (zla i).bind fun r =>
 bif neI r 0 then
 some ([], r)
 else
 none
def zob : Sig := ⟨28, [.c .nilp, .d (.int .i64)], [], 0, zoo⟩
def zmx (x : Int) : Option (((List Int) × Int)) := ziq x
theorem zzv : FnOK Try.prog zob zmx :=
 fn_ok zy1 (h := .no) Try.func28 (z0h [] (by kernel_rfl) trivial) (by kernel_rfl) zwj (fun x => by kernel_rfl)
def z18o : Env := ⟨[], [], []⟩
theorem zrt : EnvsOK Try.prog z18o := ⟨z0i _, z0g _, z0f _⟩
def zfc : Shp := ⟨19, 0, [(3, .d (.int .u64))], []⟩
def z5f : XS := .one (.exit 0) zfc.xe
theorem zp3 : z5f.OK := XS.one_ok (z0a zfc)
def z5e : Shp := ⟨19, 0, [(3, .d (.int .u64)), (6, .d (.sl (.int .u8))), (7, .d (.int .i64)), (8, .d (.int .i64))], []⟩
abbrev zbf := Int × (List Int) × Int × Int
abbrev zgt := (Int)
def z4y (n : Int) (t6 : List Int) (t7 : Int) (t8 : Int) : Option (zbf ⊕ zgt) :=
 bif ltI t8 t7 then
 (idxI t6 t8).bind fun x =>
 some (.inl (bitI .or .u64 (shI .shl .u64 n 8) (WU64 (x)), t6, t7, W64 (t8 + 1)))
 else
 some (.inr n)
def z3p (s : zbf) : Option (zbf ⊕ zgt) := z4y s.1 s.2.1 s.2.2.1 s.2.2.2
theorem zpy : SoundD Try.prog (.loop (subC (bodyC Try.f52) [1, 1, 0, 1, 0, 0])) (loopD z5e.xe z5f (loopC z3p)) :=
 z2a (S := z5e.xe) (X := z5f) zrt (h := .no) (z0h [] (by kernel_rfl) trivial) (z0a z5e) zp3 z3p (fun s => by kernel_rfl)
def zr4 : Shp := ⟨1, 0, [(0, .d (.int .u64))], []⟩
def zv7 : XS := .one .ret zr4.xe
theorem z12r : zv7.OK := XS.one_ok (z0a zr4)
def z9z (b : List Int) : Option ((Int)) :=
 z0j (List.length b) (
 (loopC z3p (0, b, (List.length b : Nat), 0)).bind fun o =>
 some o)
def zwa : Sig := ⟨52, [.d (.sl (.int .u8))], [], 0, zv7⟩
def zss (x : (List Int)) : Option ((Int)) := z9z x
theorem z16m : FnOK Try.prog zwa zss :=
 fn_ok zrt (h := (.two .no (.two .no (.two (.two .no (.over (loopD z5e.xe z5f (loopC z3p)))) .no)))) Try.func52 (z0h [.den (.loop (subC (bodyC Try.f52) [1, 1, 0, 1, 0, 0])) (loopD z5e.xe z5f (loopC z3p))] (by kernel_rfl) ⟨zpy, trivial⟩) (by kernel_rfl) z12r (fun x => by kernel_rfl)
def z1a9 : Env := ⟨[(entQ zwa zss)], [], []⟩
theorem z16l : EnvsOK Try.prog z1a9 := ⟨z0c (z0e z16m) (z0i _), z0g _, z0f _⟩
def zt5 : Shp := ⟨1, 0, [(0, .d c4)], []⟩
def zx8 : XS := .one .ret zt5.xe
theorem z14c : zx8.OK := XS.one_ok (z0a zt5)
def zgm (b : List Int) (room : Int) : Option ((T2)) :=
 bif subOk 8 16 (List.length b) then
 (z9z (subL b 8 16)).bind fun r =>
 bif subOk 16 24 (List.length b) then
 (z9z (subL b 16 24)).bind fun r2 =>
 bif subOk 24 32 (List.length b) then
 (z9z (subL b 24 32)).bind fun r3 =>
 bif subOk 0 8 (List.length b) then
 bif !(eqS (subL b 0 8) ([119, 97, 114, 100, 115, 104, 105, 112] : List Int)) then
 some (0, 0, 0)
 else
 bif subOk 32 40 (List.length b) then
 bif !(eqS (subL b 32 40) ([119, 97, 114, 100, 115, 104, 105, 112] : List Int)) then
 some (0, 0, 0)
 else
 bif subOk 16 32 (List.length b) then
 bif subOk 40 56 (List.length b) then
 bif !(eqS (subL b 16 32) (subL b 40 56)) then
 some (0, 0, 0)
 else
 bif subOk 56 64 (List.length b) then
 (z9z (subL b 56 64)).bind fun r4 =>
 bif neI r4 r then
 some (0, 0, 0)
 else
 bif ltI r 1 then
 some (0, 0, 0)
 else
 bif ltI 4611686018427387904 r then
 some (0, 0, 0)
 else
 bif ltI 1 r2 then
 some (0, 0, 0)
 else
 bif ltI (WU64 (room)) r3 then
 some (0, 0, 0)
 else
 some (r, W64 (r2), W64 (r3))
 else none
 else none
 else none
 else none
 else none
 else none
 else none
 else none
def zog : Sig := ⟨32, [.d (.sl (.int .u8)), .d (.int .i64)], [], 0, zx8⟩
def zmg (x : (List Int) × Int) : Option ((T2)) := zgm x.1 x.2
theorem zuo : FnOK Try.prog zog zmg :=
 fn_ok z16l (h := .no) Try.func32 (z0h [] (by kernel_rfl) trivial) (by kernel_rfl) z14c (fun x => by kernel_rfl)
def z1du : Env := ⟨[], [], []⟩
theorem zx5 : EnvsOK Try.prog z1du := ⟨z0i _, z0g _, z0f _⟩
def zbk : Shp := ⟨27, 0, [(0, .d (.int .u64)), (3, .wn 0 (.int .u8)), (4, .d (.int .i64)), (5, .d (.int .u8)), (21, .d .bool)], [.row 5 (.int .u8)]⟩
def z8g : XS := .one .normal zbk.xe
theorem zk3 : z8g.OK := XS.one_ok (z0a zbk)
def zh9 : Shp := ⟨27, 0, [(3, .wn 0 (.int .u8))], [.row 5 (.int .u8)]⟩
def z6z : XS := .one (.exit 0) zh9.xe
theorem zsb : z6z.OK := XS.one_ok (z0a zh9)
def z7d : Shp := ⟨27, 0, [(0, .d (.int .u64)), (3, .wn 0 (.int .u8)), (4, .d (.int .i64))], [.row 5 (.int .u8)]⟩
abbrev zcr := Int × Int × (List Int)
abbrev zl0 := ((List Int))
def z7c (n : Int) (shift : Int) (b : List Int) : Option (zcr ⊕ zl0) :=
 bif leI 0 shift then
 bif ltI shift 0 then none else
 (show Option ((Int × Int × Int × Bool × (List Int))) from
 bif neI (WU8 (shI .shr .u64 n shift)) 0 then
 bif Nat.beq (List.length b) (List.length b) then
 some (n, shift, WU8 (shI .shr .u64 n shift), true, b)
 else none
 else
 z0j (List.length b) (
 bif Nat.beq (List.length b) (List.length b) then
 some (n, shift, WU8 (shI .shr .u64 n shift), ltI 0 (List.length b : Nat), b)
 else none)).bind fun j =>
 bif j.2.2.2.1 then
 bif Nat.beq (List.length j.2.2.2.2) (List.length j.2.2.2.2) then
 appG (List.length j.2.2.2.2) (List.length ([j.2.2.1] : List Int)) 1 fun _ =>
 bif Nat.beq (List.length (j.2.2.2.2 ++ ([j.2.2.1] : List Int))) (List.length (j.2.2.2.2 ++ ([j.2.2.1] : List Int))) then
 some (.inl (j.1, W64 (j.2.1 - 8), j.2.2.2.2 ++ ([j.2.2.1] : List Int)))
 else none
 else none
 else
 bif Nat.beq (List.length j.2.2.2.2) (List.length j.2.2.2.2) then
 some (.inl (j.1, W64 (j.2.1 - 8), j.2.2.2.2))
 else none
 else
 bif Nat.beq (List.length b) (List.length b) then
 some (.inr b)
 else none
def z4o (s : zcr) : Option (zcr ⊕ zl0) := z7c s.1 s.2.1 s.2.2
theorem zti : SoundD Try.prog (.loop (subC (bodyC Try.f82) [1, 1, 0, 1, 0, 0])) (loopD z7d.xe z6z (loopC z4o)) :=
 z2a (S := z7d.xe) (X := z6z) zx5 (h := (.two .no (.two (.two .no (.join (fun _ => z8g) .no .no)) .no))) (z0h [.xs (fun _ => z8g)] (by kernel_rfl) ⟨(z2l zk3), trivial⟩) (z0a z7d) zsb z4o (fun s => by kernel_rfl)
def zxv : Shp := ⟨1, 0, [(0, .wn 0 (.int .u8))], [.row 5 (.int .u8)]⟩
def z12m : XS := .one .ret zxv.xe
theorem z17u : z12m.OK := XS.one_ok (z0a zxv)
def zqi (n : Int) : Option (((List Int))) :=
 bif Nat.beq (List.length ([] : List Int)) (List.length ([] : List Int)) then
 (loopC z4o (n, 56, ([] : List Int))).bind fun o =>
 bif Nat.beq (List.length o) (List.length o) then
 some o
 else none
 else none
def z12g : Sig := ⟨82, [.d (.int .u64)], [], 0, z12m⟩
def zz3 (x : Int) : Option (((List Int))) := zqi x
theorem z1c3 : FnOK Try.prog z12g zz3 :=
 fn_ok zx5 (h := (.two .no (.two (.reg [0] []) (.two (.two .no (.over (loopD z7d.xe z6z (loopC z4o)))) .no)))) Try.func82 (z0h [.den (.loop (subC (bodyC Try.f82) [1, 1, 0, 1, 0, 0])) (loopD z7d.xe z6z (loopC z4o))] (by kernel_rfl) ⟨zti, trivial⟩) (by kernel_rfl) z17u (fun x => by kernel_rfl)
def z16i : Env := ⟨[], [(entP z12g zz3)], []⟩
theorem z12v : EnvsOK Try.prog z16i := ⟨z0i _, z0k (z0r z1c3) (z0g _), z0f _⟩
def zpe : Shp := ⟨1, 0, [(0, .wn 0 (.int .u8))], [.row 5 (.int .u8)]⟩
def zsx : XS := .one .ret zpe.xe
theorem z10m : zsx.OK := XS.one_ok (z0a zpe)
def zaw (n : Int) : Option (((List Int))) :=
 (zqi n).bind fun r =>
 z0j (List.length r) (
 makeG (W64 (8 - (List.length r : Nat))) 1 (
 bif Nat.beq ((W64 (8 - (List.length r : Nat))).toNat) (List.length (List.replicate ((W64 (8 - (List.length r : Nat))).toNat) (0 : Int))) then
 winK r 0 (List.length r) fun w =>
 appG (List.length (List.replicate ((W64 (8 - (List.length r : Nat))).toNat) (0 : Int))) (List.length w) 1 fun _ =>
 bif Nat.beq (List.length ((List.replicate ((W64 (8 - (List.length r : Nat))).toNat) (0 : Int)) ++ w)) (List.length ((List.replicate ((W64 (8 - (List.length r : Nat))).toNat) (0 : Int)) ++ w)) then
 some ((List.replicate ((W64 (8 - (List.length r : Nat))).toNat) (0 : Int)) ++ w)
 else none
 else none))
def zlc : Sig := ⟨73, [.d (.int .u64)], [], 0, zsx⟩
def zj0 (x : Int) : Option (((List Int))) := zaw x
theorem zqq : FnOK Try.prog zlc zj0 :=
 fn_ok z12v (h := .no) Try.func73 (z0h [] (by kernel_rfl) trivial) (by kernel_rfl) z10m (fun x => by kernel_rfl)
def z1as : Env := ⟨[], [(entP z11w zy6)], []⟩
theorem zl8 : EnvsOK Try.prog z1as := ⟨z0i _, z0k (z0r z17i) (z0g _), z0f _⟩
def zft : Shp := ⟨36, 0, [(0, .d c5), (3, .d (.int .i64))], []⟩
def z6a : XS := .one (.exit 0) zft.xe
theorem zpk : z6a.OK := XS.one_ok (z0a zft)
def z5y : Shp := ⟨36, 0, [(0, .d c5), (3, .d (.int .i64)), (9, .d c5), (10, .d (.int .i64)), (11, .d (.int .i64))], []⟩
abbrev zbq := (List (List Int)) × Int × (List (List Int)) × Int × Int
abbrev zh8 := ((List (List Int)) × Int)
def z5z (slices : List (List Int)) (size : Int) (t9 : List (List Int)) (t10 : Int) (t11 : Int) : Option (zbq ⊕ zh8) :=
 bif ltI t11 t10 then
 (idxI t9 t11).bind fun x =>
 z0j (List.length x) (
 bif ltI (W64 (size + (List.length x : Nat))) 0 then
 none
 else
 some (.inl (slices, W64 (size + (List.length x : Nat)), t9, t10, W64 (t11 + 1))))
 else
 some (.inr (slices, size))
def z2m (s : zbq) : Option (zbq ⊕ zh8) := z5z s.1 s.2.1 s.2.2.1 s.2.2.2.1 s.2.2.2.2
theorem zrh : SoundD Try.prog (.loop (subC (bodyC Try.f38) [1, 1, 0, 1, 0, 0])) (loopD z5y.xe z6a (loopC z2m)) :=
 z2a (S := z5y.xe) (X := z6a) zl8 (h := .no) (z0h [] (by kernel_rfl) trivial) (z0a z5y) zpk z2m (fun s => by kernel_rfl)
def zcm : Shp := ⟨36, 0, [(6, .wn 0 (.int .u8))], [.row 5 (.int .u8)]⟩
def z4f : XS := .one (.exit 2) zcm.xe
theorem zmo : z4f.OK := XS.one_ok (z0a zcm)
def z4e : Shp := ⟨36, 0, [(6, .wn 0 (.int .u8)), (25, .d c5), (26, .d (.int .i64)), (27, .d (.int .i64))], [.row 5 (.int .u8)]⟩
abbrev z9s := (List (List Int)) × Int × Int × (List Int)
abbrev zeb := ((List Int))
def z4d (t25 : List (List Int)) (t26 : Int) (t27 : Int) (newslice : List Int) : Option (z9s ⊕ zeb) :=
 bif ltI t27 t26 then
 (idxI t25 t27).bind fun x =>
 bif Nat.beq (List.length newslice) (List.length newslice) then
 appG (List.length newslice) (List.length x) 1 fun _ =>
 bif Nat.beq (List.length (newslice ++ x)) (List.length (newslice ++ x)) then
 some (.inl (t25, t26, W64 (t27 + 1), newslice ++ x))
 else none
 else none
 else
 bif Nat.beq (List.length newslice) (List.length newslice) then
 some (.inr newslice)
 else none
def z1k (s : z9s) : Option (z9s ⊕ zeb) := z4d s.1 s.2.1 s.2.2.1 s.2.2.2
theorem znr : SoundD Try.prog (.loop (subC (bodyC Try.f38) [1, 1, 1, 1, 0, 1, 0, 0])) (loopD z4e.xe z4f (loopC z1k)) :=
 z2a (S := z4e.xe) (X := z4f) zl8 (h := .no) (z0h [] (by kernel_rfl) trivial) (z0a z4e) zmo z1k (fun s => by kernel_rfl)
def zsv : Shp := ⟨1, 0, [(0, .wn 0 (.int .u8))], [.row 5 (.int .u8)]⟩
def zxq : XS := .one .ret zsv.xe
theorem z14d : zxq.OK := XS.one_ok (z0a zsv)
def zgs (slices : List (List Int)) : Option (((List Int))) :=
 z0j (List.length slices) (
 (loopC z2m (slices, 0, slices, (List.length slices : Nat), 0)).bind fun o =>
 (z12b o.2).bind fun r =>
 z0j (List.length o.1) (
 bif Nat.beq (List.length r) (List.length r) then
 (loopC z1k (o.1, (List.length o.1 : Nat), 0, r)).bind fun o2 =>
 bif Nat.beq (List.length o2) (List.length o2) then
 some o2
 else none
 else none))
def zxb : Sig := ⟨38, [.d c5], [], 0, zxq⟩
def zw2 (x : (List (List Int))) : Option (((List Int))) := zgs x
theorem z17y : FnOK Try.prog zxb zw2 :=
 fn_ok zl8 (h := (.two .no (.two .no (.two (.two .no (.over (loopD z5y.xe z6a (loopC z2m)))) (.two .no (.two (.two .no (.over (loopD z4e.xe z4f (loopC z1k)))) .no)))))) Try.func38 (z0h [.den (.loop (subC (bodyC Try.f38) [1, 1, 0, 1, 0, 0])) (loopD z5y.xe z6a (loopC z2m)), .den (.loop (subC (bodyC Try.f38) [1, 1, 1, 1, 0, 1, 0, 0])) (loopD z4e.xe z4f (loopC z1k))] (by kernel_rfl) ⟨zrh, znr, trivial⟩) (by kernel_rfl) z14d (fun x => by kernel_rfl)
def zoi : Env := ⟨[], [(entP zlc zj0), (entP zxb zw2)], [(entD zlc zj0)]⟩
theorem zmd : EnvsOK Try.prog zoi := ⟨z0i _, z0k (z0r zqq) (z0k (z0r z17y) (z0g _)), z1kn (z1pn zqq) (z0f _)⟩
def zc9 : Shp := ⟨1, 0, [(0, .d (.sl (.int .u8)))], []⟩
def zd6 : XS := .one .ret zc9.xe
theorem zlg : zd6.OK := XS.one_ok (z0a zc9)
def z1o (t : T2) : Option (((List Int))) :=
 (zaw t.1).bind fun r =>
 (zaw (WU64 (t.2.1))).bind fun r2 =>
 (zaw (WU64 (t.2.2))).bind fun r3 =>
 bif Nat.beq (List.length r2) (List.length r2) then
 winK r3 0 (List.length r3) fun w =>
 appG (List.length r2) (List.length w) 1 fun _ =>
 winK ([119, 97, 114, 100, 115, 104, 105, 112] : List Int) 0 (List.length ([119, 97, 114, 100, 115, 104, 105, 112] : List Int)) fun w2 =>
 winK r 0 (List.length r) fun w3 =>
 winK (r2 ++ w) 0 (List.length (r2 ++ w)) fun w4 =>
 winK ([119, 97, 114, 100, 115, 104, 105, 112] : List Int) 0 (List.length ([119, 97, 114, 100, 115, 104, 105, 112] : List Int)) fun w5 =>
 winK (r2 ++ w) 0 (List.length (r2 ++ w)) fun w6 =>
 winK r 0 (List.length r) fun w7 =>
 (zgs ([w2, w3, w4, w5, w6, w7] : List (List Int))).bind fun r4 =>
 bif Nat.beq (List.length r4) (List.length r4) then
 appG (List.length r4) 192 1 fun _ =>
 winK (r4 ++ (List.replicate 192 (0 : Int))) 0 (List.length (r4 ++ (List.replicate 192 (0 : Int)))) fun w8 =>
 some w8
 else none
 else none
def z3y : Sig := ⟨54, [.d c4], [], 0, zd6⟩
def z3b (x : T2) : Option (((List Int))) := z1o x
theorem z5i : FnOK Try.prog z3y z3b :=
 fn_ok zmd (h := (.two .no (.two (.reg [] [10, 0, 0, 2]) (.two (.reg [0, 4, 2000008] []) .no)))) Try.func54 (z0h [] (by kernel_rfl) trivial) (by kernel_rfl) zlg (fun x => by kernel_rfl)
def zyv : Env := ⟨[(entQ zgz zfu)], [], []⟩
theorem zwp : EnvsOK Try.prog zyv := ⟨z0c (z0e zny) (z0i _), z0g _, z0f _⟩
def zkc : Shp := ⟨1, 0, [(0, .d (.int .i64))], []⟩
def zna : XS := .one .ret zkc.xe
theorem zwg : zna.OK := XS.one_ok (z0a zkc)
def zch (i : Int) (b : List Int) : Option ((Int)) :=
 (zla i).bind fun r =>
 bif neI r 0 then
 some r
 else
 z0j (List.length b) (
 bif neI (List.length b : Nat) 256 then
 some 1
 else
 bif Nat.ble 256 (List.length (List.replicate 256 (0 : Int))) then
 none
 else none)
def zb4 : Sig := ⟨53, [.c .nilp, .d (.int .i64), .d (.sl (.int .u8))], [], 0, zna⟩
def za8 (x : Int × (List Int)) : Option ((Int)) := zch x.1 x.2
theorem ze2 : FnOK Try.prog zb4 za8 :=
 fn_ok zwp (h := .no) Try.func53 (z0h [] (by kernel_rfl) trivial) (by kernel_rfl) zwg (fun x => by kernel_rfl)
def zwm : Env := ⟨[(entQ zcg zbl)], [], []⟩
theorem zua : EnvsOK Try.prog zwm := ⟨z0c (z0e zg4) (z0i _), z0g _, z0f _⟩
def zhu : Shp := ⟨1, 0, [(0, .d (.int .i64))], []⟩
def zkd : XS := .one .ret zhu.xe
theorem zs9 : zkd.OK := XS.one_ok (z0a zhu)
def zax  : Option ((Int)) :=
 (zem).bind fun r =>
 bif r then
 some 6
 else
 none
def z9t : Sig := ⟨55, [.c .nilp], [], 0, zkd⟩
def z9b (x : Unit) : Option ((Int)) := zax 
theorem zc6 : FnOK Try.prog z9t z9b :=
 fn_ok zua (h := .no) Try.func55 (z0h [] (by kernel_rfl) trivial) (by kernel_rfl) zs9 (fun x => by kernel_rfl)
def zw6 : Env := ⟨[(entQ z3y z3b), (entQ zb4 za8), (entQ z9t z9b)], [], []⟩
theorem zsd : EnvsOK Try.prog zw6 := ⟨z0c (z0e z5i) (z0c (z0e ze2) (z0c (z0e zc6) (z0i _))), z0g _, z0f _⟩
def ze9 : Shp := ⟨34, 1, [(0, .pt 0 r6 []), (3, .pt 1 r7 []), (5, .d (.int .i64))], [.var 75 (.ag [.c .nilp, .d c4, .d (.sl (.int .u8)), .d (.int .i64), .d .bool]), .var 73 (.d c4)]⟩
def zas : XS := .one .normal ze9.xe
theorem zo3 : zas.OK := XS.one_ok (z0a ze9)
def zgd : Shp := ⟨1, 1, [(0, .d (.int .i64))], [.var 75 (.ag [.c .nilp, .d c4, .d (.sl (.int .u8)), .d (.int .i64), .d .bool])]⟩
def zij : XS := .one .ret zgd.xe
theorem zr6 : zij.OK := XS.one_ok (z0a zgd)
def zlq (t : T2) (j : T2) (j2 : List Int) (j3 : Int) (j4 : Bool) : Option ((Int × T2 × (List Int) × Int × Bool)) :=
 (z1o t).bind fun r =>
 (zch (W64 (Int.tmod t.1 2)) r).bind fun r2 =>
 (show Option ((Int × T2 × (List Int) × Int × Bool × T2)) from
 bif eqI r2 0 then
 (zax).bind fun r3 =>
 some (r3, j, j2, j3, j4, t)
 else
 some (r2, j, j2, j3, j4, t)).bind fun j5 =>
 bif neI j5.1 0 then
 some (j5.1, j5.2.1, j5.2.2.1, j5.2.2.2.1, true)
 else
 some (0, j5.2.2.2.2.2, j5.2.2.1, j5.2.2.2.1, j5.2.2.2.2.1)
def zie : Sig := ⟨33, [.pt 0 r6 [], .d c4], [.var 75 (.ag [.c .nilp, .d c4, .d (.sl (.int .u8)), .d (.int .i64), .d .bool])], 1, zij⟩
def zho (x : T2 × T2 × (List Int) × Int × Bool) : Option ((Int × T2 × (List Int) × Int × Bool)) := zlq x.1 x.2.1 x.2.2.1 x.2.2.2.1 x.2.2.2.2
theorem ztm : FnOK Try.prog zie zho :=
 fn_ok zsd (h := (.two .no (.two .no (.join (fun _ => zas) .no .no)))) Try.func33 (z0h [.xs (fun _ => zas)] (by kernel_rfl) ⟨(z2l zo3), trivial⟩) (by kernel_rfl) zr6 (fun x => by kernel_rfl)
def z10r : Env := ⟨[(entQ z7g z6p)], [], []⟩
theorem zy2 : EnvsOK Try.prog z10r := ⟨z0c (z0e z8p) (z0i _), z0g _, z0f _⟩
def zlx : Shp := ⟨1, 0, [(0, .d (.int .i64))], []⟩
def zo7 : XS := .one .ret zlx.xe
theorem zwy : zo7.OK := XS.one_ok (z0a zlx)
def zir (j : T2) (j2 : List Int) (j3 : Int) (j4 : Bool) (side : Int) (i : Int) : Option ((Int)) :=
 (z9a).bind fun r =>
 some (W64 ((W64 (2 + (W64 (side * r)))) + i))
def zg7 : Sig := ⟨34, [.rf (.ag [.c .nilp, .d c4, .d (.sl (.int .u8)), .d (.int .i64), .d .bool]), .d (.int .i64), .d (.int .i64)], [], 0, zo7⟩
def zeu (x : T2 × (List Int) × Int × Bool × Int × Int) : Option ((Int)) := zir x.1 x.2.1 x.2.2.1 x.2.2.2.1 x.2.2.2.2.1 x.2.2.2.2.2
theorem zn3 : FnOK Try.prog zg7 zeu :=
 fn_ok zy2 (h := .no) Try.func34 (z0h [] (by kernel_rfl) trivial) (by kernel_rfl) zwy (fun x => by kernel_rfl)
def zv0 : Env := ⟨[(entQ z3y z3b), (entQ zb4 za8), (entQ z9t z9b)], [], []⟩
theorem zsj : EnvsOK Try.prog zv0 := ⟨z0c (z0e z5i) (z0c (z0e ze2) (z0c (z0e zc6) (z0i _))), z0g _, z0f _⟩
def zec : Shp := ⟨34, 1, [(0, .pt 0 r6 []), (3, .pt 1 r7 []), (5, .d (.int .i64))], [.var 75 (.ag [.c .nilp, .d c4, .wn 2 (.int .u8), .d (.int .i64), .d .bool]), .var 73 (.d c4), .row 5 (.int .u8)]⟩
def zae : XS := .one .normal zec.xe
theorem zov : zae.OK := XS.one_ok (z0a zec)
def zgu : Shp := ⟨1, 1, [(0, .d (.int .i64))], [.var 75 (.ag [.c .nilp, .d c4, .d (.sl (.int .u8)), .d (.int .i64), .d .bool])]⟩
def zjl : XS := .one .ret zgu.xe
theorem zrg : zjl.OK := XS.one_ok (z0a zgu)
def zlu (t : T2) (j : T2) (j2 : Int) (j3 : Bool) (j4 : List Int) : Option ((Int × T2 × (List Int) × Int × Bool)) :=
 (z1o t).bind fun r =>
 (zch (W64 (Int.tmod t.1 2)) r).bind fun r2 =>
 (show Option ((Int × T2 × Int × Bool × T2 × (List Int))) from
 bif eqI r2 0 then
 (zax).bind fun r3 =>
 bif Nat.beq (List.length j4) (List.length j4) then
 some (r3, j, j2, j3, t, j4)
 else none
 else
 bif Nat.beq (List.length j4) (List.length j4) then
 some (r2, j, j2, j3, t, j4)
 else none).bind fun j5 =>
 bif neI j5.1 0 then
 winK j5.2.2.2.2.2 0 (List.length j5.2.2.2.2.2) fun w =>
 some (j5.1, j5.2.1, w, j5.2.2.1, true)
 else
 winK j5.2.2.2.2.2 0 (List.length j5.2.2.2.2.2) fun w2 =>
 some (0, j5.2.2.2.2.1, w2, j5.2.2.1, j5.2.2.2.1)
def zi1 : Sig := ⟨33, [.pt 0 r6 [], .d c4], [.var 75 (.ag [.c .nilp, .d c4, .wn 1 (.int .u8), .d (.int .i64), .d .bool]), .row 5 (.int .u8)], 1, zjl⟩
def zhi (x : T2 × T2 × Int × Bool × (List Int)) : Option ((Int × T2 × (List Int) × Int × Bool)) := zlu x.1 x.2.1 x.2.2.1 x.2.2.2.1 x.2.2.2.2
theorem zu9 : FnOK Try.prog zi1 zhi :=
 fn_ok zsj (h := (.two .no (.two .no (.join (fun _ => zae) .no .no)))) Try.func33 (z0h [.xs (fun _ => zae)] (by kernel_rfl) ⟨(z2l zov), trivial⟩) (by kernel_rfl) zrg (fun x => by kernel_rfl)
def z1ke : Env := ⟨[], [], []⟩
theorem z16w : EnvsOK Try.prog z1ke := ⟨z0i _, z0g _, z0f _⟩
def zmz : Shp := ⟨27, 0, [(3, .d (.int .u32)), (4, .d (.int .u32))], []⟩
def z9x : XS := .one (.exit 0) zmz.xe
theorem zyj : z9x.OK := XS.one_ok (z0a zmz)
def z9u : Shp := ⟨27, 0, [(3, .d (.int .u32)), (4, .d (.int .u32)), (7, .d (.sl (.int .u8))), (8, .d (.int .i64)), (9, .d (.int .i64))], []⟩
abbrev zh1 := Int × Int × (List Int) × Int × Int
abbrev zp7 := (Int × Int)
def z9v (low : Int) (high : Int) (t7 : List Int) (t8 : Int) (t9 : Int) : Option (zh1 ⊕ zp7) :=
 bif ltI t9 t8 then
 (idxI t7 t9).bind fun x =>
 some (.inl ((Int.tmod ((WU32 (low + (WU32 (x))))) 65521, Int.tmod ((WU32 (high + (Int.tmod ((WU32 (low + (WU32 (x))))) 65521)))) 65521, t7, t8, W64 (t9 + 1))))
 else
 some (.inr (low, high))
def z7o (s : zh1) : Option (zh1 ⊕ zp7) := z9v s.1 s.2.1 s.2.2.1 s.2.2.2.1 s.2.2.2.2
theorem zz0 : SoundD Try.prog (.loop (subC (bodyC Try.f76) [1, 1, 0, 1, 0, 0])) (loopD z9u.xe z9x (loopC z7o)) :=
 z2a (S := z9u.xe) (X := z9x) z16w (h := .no) (z0h [] (by kernel_rfl) trivial) (z0a z9u) zyj z7o (fun s => by kernel_rfl)
def z16q : Shp := ⟨1, 0, [(0, .d (.int .u32))], []⟩
def z1dp : XS := .one .ret z16q.xe
theorem z1ee : z1dp.OK := XS.one_ok (z0a z16q)
def zyq (b : List Int) : Option ((Int)) :=
 z0j (List.length b) (
 (loopC z7o (1, 0, b, (List.length b : Nat), 0)).bind fun o =>
 some (bitI .or .u32 (shI .shl .u32 o.2 16) o.1))
def z14a : Sig := ⟨76, [.d (.sl (.int .u8))], [], 0, z1dp⟩
def z11z (x : (List Int)) : Option ((Int)) := zyq x
theorem z1ba : FnOK Try.prog z14a z11z :=
 fn_ok z16w (h := (.two .no (.two .no (.two (.two .no (.over (loopD z9u.xe z9x (loopC z7o)))) .no)))) Try.func76 (z0h [.den (.loop (subC (bodyC Try.f76) [1, 1, 0, 1, 0, 0])) (loopD z9u.xe z9x (loopC z7o))] (by kernel_rfl) ⟨zz0, trivial⟩) (by kernel_rfl) z1ee (fun x => by kernel_rfl)
def z1j7 : Env := ⟨[(entQ z14a z11z)], [], []⟩
theorem z1g1 : EnvsOK Try.prog z1j7 := ⟨z0c (z0e z1ba) (z0i _), z0g _, z0f _⟩
def z13v : Shp := ⟨1, 0, [(0, .d (.sl (.int .u8)))], []⟩
def z19o : XS := .one .ret z13v.xe
theorem z1dv : z19o.OK := XS.one_ok (z0a z13v)
def z11d (b : List Int) : Option (((List Int))) :=
 (zyq b).bind fun r =>
 appG (List.length ([] : List Int)) (List.length b) 1 fun _ =>
 bif Nat.beq (List.length b) (List.length b) then
 appG (List.length b) (List.length ([WU8 (shI .shr .u32 r 24), WU8 (shI .shr .u32 r 16), WU8 (shI .shr .u32 r 8), WU8 (r)] : List Int)) 1 fun _ =>
 winK (b ++ ([WU8 (shI .shr .u32 r 24), WU8 (shI .shr .u32 r 16), WU8 (shI .shr .u32 r 8), WU8 (r)] : List Int)) 0 (List.length (b ++ ([WU8 (shI .shr .u32 r 24), WU8 (shI .shr .u32 r 16), WU8 (shI .shr .u32 r 8), WU8 (r)] : List Int))) fun w =>
 some w
 else none
def z1bb : Sig := ⟨59, [.d (.sl (.int .u8))], [], 0, z19o⟩
def z16t (x : (List Int)) : Option (((List Int))) := z11d x
theorem z1gp : FnOK Try.prog z1bb z16t :=
 fn_ok z1g1 (h := (.two .no (.two .no (.two (.reg [2] []) .no)))) Try.func59 (z0h [] (by kernel_rfl) trivial) (by kernel_rfl) z1dv (fun x => by kernel_rfl)
def z1ei : Env := ⟨[(entQ z1bb z16t)], [], []⟩
theorem z1cg : EnvsOK Try.prog z1ei := ⟨z0c (z0e z1gp) (z0i _), z0g _, z0f _⟩
def zzn : Shp := ⟨1, 0, [(0, .tu [.wn 0 (.int .u8), .d (.int .i64)])], [.row 5 (.int .u8)]⟩
def z14v : XS := .one .ret zzn.xe
theorem z1bd : z14v.OK := XS.one_ok (z0a zzn)
def ztt (b : List Int) : Option ((Int × (List Int))) :=
 z0j (List.length b) (
 bif ltI (W64 ((List.length b : Nat) - 4)) 0 then
 bif Nat.beq 0 (List.length ([] : List Int)) then
 some (8, ([] : List Int))
 else none
 else
 bif subOk 0 (W64 ((List.length b : Nat) - 4)) (List.length b) then
 (z11d (subL b 0 (W64 ((List.length b : Nat) - 4)))).bind fun r =>
 bif !(eqS r b) then
 bif Nat.beq 0 (List.length ([] : List Int)) then
 some (9, ([] : List Int))
 else none
 else
 bif subOk 0 (W64 ((List.length b : Nat) - 4)) (List.length b) then
 appG (List.length ([] : List Int)) (List.length (subL b 0 (W64 ((List.length b : Nat) - 4)))) 1 fun _ =>
 bif Nat.beq (List.length (subL b 0 (W64 ((List.length b : Nat) - 4)))) (List.length (subL b 0 (W64 ((List.length b : Nat) - 4)))) then
 some ((0, subL b 0 (W64 ((List.length b : Nat) - 4))))
 else none
 else none
 else none)
def z14g : Sig := ⟨57, [.d (.sl (.int .u8))], [], 0, z14v⟩
def z12n (x : (List Int)) : Option ((Int × (List Int))) := ztt x
theorem z1dy : FnOK Try.prog z14g z12n :=
 fn_ok z1cg (h := (.two .no (.two .no (.two .no (.two .no (.two (.reg [4] []) .no)))))) Try.func57 (z0h [] (by kernel_rfl) trivial) (by kernel_rfl) z1bd (fun x => by kernel_rfl)
def z17t : Env := ⟨[], [], []⟩
theorem z13g : EnvsOK Try.prog z17t := ⟨z0i _, z0g _, z0f _⟩
def zru : Shp := ⟨1, 1, [(0, .fn 74 [.pt 1 (.one .leaf) []])], [.row 5 (.int .u8), .var 34 (.d (.sl (.int .u8)))]⟩
def zve : XS := .one .ret zru.xe
theorem z12t : zve.OK := XS.one_ok (z0a zru)
def zpr (b : List Bool) (b2 : List Int) : Option (((List Int) × (List Int))) :=
 winK b2 0 (lenW b) fun w =>
 appG (List.length ([] : List Int)) (List.length w) 1 fun _ =>
 winK w 0 (List.length w) fun w2 =>
 some (b2, w2)
def zwd : Sig := ⟨56, [.ws 0 (.int .u8)], [.row 5 (.int .u8)], 1, zve⟩
def zsw (x : (List Bool) × (List Int)) : Option (((List Int) × (List Int))) := zpr x.1 x.2
theorem z16e : FnOK Try.prog zwd zsw :=
 fn_ok z13g (h := (.two .no (.two (.reg [2, 4] []) .no))) Try.func56 (z0h [] (by kernel_rfl) trivial) (by kernel_rfl) z12t (fun x => by kernel_rfl)
def z19k : Env := ⟨[], [(entP zwd zsw), (entP z14g z12n)], []⟩
theorem zrn : EnvsOK Try.prog z19k := ⟨z0i _, z0k (z0r z16e) (z0k (z0r z1dy) (z0g _)), z0f _⟩
def zet : Shp := ⟨27, 4, [], [.row 5 (.int .u8), .var 28 (.wn 4 (.sl (.int .u8))), .var 24 (.d (.int .i64)), .var 28 (.wn 5 (.sl (.int .u8))), .row 34 (.sl (.int .u8)), .row 34 (.sl (.int .u8))]⟩
def z4z : XS := .one .ret zet.xe
theorem zp6 : z4z.OK := XS.one_ok (z0a zet)
def z5h : Shp := ⟨27, 1, [(2, .pt 1 (.one .leaf) []), (3, .pt 2 (.one .leaf) []), (4, .pt 3 (.one .leaf) []), (10, .fn 74 [.rf (.d (.sl (.int .u8)))])], [.row 5 (.int .u8), .var 28 (.wn 4 (.sl (.int .u8))), .var 24 (.d (.int .i64)), .var 28 (.wn 5 (.sl (.int .u8))), .row 34 (.sl (.int .u8)), .row 34 (.sl (.int .u8))]⟩
def z8e : Shp := ⟨27, 4, [], [.row 5 (.int .u8), .var 28 (.wn 4 (.sl (.int .u8))), .var 24 (.d (.int .i64)), .var 28 (.wn 5 (.sl (.int .u8))), .row 34 (.sl (.int .u8)), .row 34 (.sl (.int .u8))]⟩
abbrev z5g := (List Int) × (List Int) × Int × (List (List Int)) × (List (List Int))
abbrev z5c := (List Int) × Int × (List (List Int)) × (List (List Int))
abbrev zbd := ((List Int) × Int × (List (List Int)) × (List (List Int)))
abbrev zsm := (List Int) × Int
def zbc (t10 : List Int) (h : List Int) (t3 : Int) (t2 : List (List Int)) (out : List (List Int)) (h2 : List Int) (h3 : Int) (h4 : List (List Int)) (h5 : List (List Int)) (t11 : List Int) (t12 : Int) : Option (z5c ⊕ zbd) :=
 bif neI t12 0 then
 bif Nat.beq 0 (List.length ([] : List (List Int))) then
 bif Nat.beq (List.length h5) (List.length h5) then
 some (.inr (h2, 7, ([] : List (List Int)), h5))
 else none
 else none
 else
 (ztt t11).bind fun r =>
 bif neI r.1 0 then
 bif Nat.beq 0 (List.length ([] : List (List Int))) then
 bif Nat.beq (List.length h5) (List.length h5) then
 some (.inr (h2, 9, ([] : List (List Int)), h5))
 else none
 else none
 else
 winK r.2 0 (List.length r.2) fun w =>
 bif Nat.beq (List.length h5) (List.length h5) then
 appG (List.length h5) (List.length ([w] : List (List Int))) 24 fun _ =>
 bif Nat.beq (List.length h4) (List.length h4) then
 bif Nat.beq (List.length (h5 ++ ([w] : List (List Int)))) (List.length (h5 ++ ([w] : List (List Int)))) then
 some (.inl (h2, h3, h4, h5 ++ ([w] : List (List Int))))
 else none
 else none
 else none
def z1c (s : z5g) (h : z5c) (x : zsm) : Option (z5c ⊕ zbd) := zbc s.1 s.2.1 s.2.2.1 s.2.2.2.1 s.2.2.2.2 h.1 h.2.1 h.2.2.1 h.2.2.2 x.1 x.2
def z2y (s : z5g) : z5c := (s.2.1, s.2.2.1, s.2.2.2.1, s.2.2.2.2)
def z4l (s : z5g) : (List Int) := s.1
def zbe (s : z5g) : Option (z5c ⊕ zbd) := (ze1 (decB (z1c s) (z2y s)) (z4l s)).bind fun tr => runB (z1c s) (z2y s) tr
theorem zpq : SoundD Try.prog (.rangeFunc (.tmp 10) #[11, 12] (subC (bodyC Try.f35) [1, 1, 0, 1, 0, 0]) (subC (bodyC Try.f35) [1, 1, 0, 1, 0, 1])) (zys (A := [.d (.sl (.int .u8)), .d (.int .i64)]) (C := [.rf (.d (.sl (.int .u8)))]) z5h.xe z8e z4z ze1 z4l z2y z1c) :=
 z1gv (A := [.d (.sl (.int .u8)), .d (.int .i64)]) (C := [.rf (.d (.sl (.int .u8)))]) (S := z5h.xe) (Sh := z8e) (X := z4z) zrn z1j3 (g1 := .no) (g2 := (.two .no (.two .no (.two .no (.reg [2000002] []))))) (z0h [] (by kernel_rfl) trivial) (z0h [] (by kernel_rfl) trivial) (z0a z5h) zp6 (fun s => by kernel_rfl) (fun s => by kernel_rfl) (fun s => by kernel_rfl) (fun s => by kernel_rfl) (fun s => by kernel_rfl) (fun x => by kernel_rfl) (fun x => by kernel_rfl) z1c (fun s h x => by kernel_rfl)
def zrb : Shp := ⟨1, 1, [(0, .tu [.wn 1 (.sl (.int .u8)), .d (.int .i64)])], [.row 5 (.int .u8), .row 34 (.sl (.int .u8))]⟩
def zvl : XS := .one .ret zrb.xe
theorem z12x : zvl.OK := XS.one_ok (z0a zrb)
def zf0 (b : List Bool) (b2 : List Int) : Option ((Int × (List Int) × (List (List Int)))) :=
 (zpr (List.replicate (lenW b) true) b2).bind fun r =>
 bif Nat.beq 0 (List.length ([] : List (List Int))) then
 bif Nat.beq 0 (List.length ([] : List (List Int))) then
 (zbe (r.2, r.1, 0, ([] : List (List Int)), ([] : List (List Int)))).bind fun o =>
 Sum.elim (fun y =>
 bif Nat.beq (List.length y.2.2.2) (List.length y.2.2.2) then
 some (0, y.1, y.2.2.2)
 else none) (fun y2 =>
 bif Nat.beq (List.length y2.2.2.1) (List.length y2.2.2.1) then
 some (y2.2.1, y2.1, y2.2.2.1)
 else none) o
 else none
 else none
def zmb : Sig := ⟨35, [.ws 0 (.int .u8)], [.row 5 (.int .u8)], 1, zvl⟩
def zl7 (x : (List Bool) × (List Int)) : Option ((Int × (List Int) × (List (List Int)))) := zf0 x.1 x.2
theorem zt3 : FnOK Try.prog zmb zl7 :=
 fn_ok zrn (h := (.two .no (.two .no (.two (.two .no (.over (zys (A := [.d (.sl (.int .u8)), .d (.int .i64)]) (C := [.rf (.d (.sl (.int .u8)))]) z5h.xe z8e z4z ze1 z4l z2y z1c))) .no)))) Try.func35 (z0h [.den (.rangeFunc (.tmp 10) #[11, 12] (subC (bodyC Try.f35) [1, 1, 0, 1, 0, 0]) (subC (bodyC Try.f35) [1, 1, 0, 1, 0, 1])) (zys (A := [.d (.sl (.int .u8)), .d (.int .i64)]) (C := [.rf (.d (.sl (.int .u8)))]) z5h.xe z8e z4z ze1 z4l z2y z1c)] (by kernel_rfl) ⟨zpq, trivial⟩) (by kernel_rfl) z12x (fun x => by kernel_rfl)
def z18v : Env := ⟨[(entQ zg2 zez), (entQ z7g z6p), (entQ zob zmx), (entQ zog zmg), (entQ zg7 zeu)], [(entP zi1 zhi), (entP zmb zl7)], []⟩
theorem zi6 : EnvsOK Try.prog z18v := ⟨z0c (z0e znk) (z0c (z0e z8p) (z0c (z0e zzv) (z0c (z0e zuo) (z0c (z0e zn3) (z0i _))))), z0k (z0r zu9) (z0k (z0r zt3) (z0g _)), z0f _⟩
def zcb : Shp := ⟨138, 0, [(0, .c .nilp), (5, .pt 0 r6 [])], [.var 75 (.ag [.c .nilp, .d c4, .wn 1 (.int .u8), .d (.int .i64), .d .bool]), .row 5 (.int .u8)]⟩
def zcc : Shp := ⟨138, 0, [(2, .c .nilp), (3, .d c5), (4, .d (.int .i64))], []⟩
def z3z : XS := .or (.exit 0) zcb.xe (.one .ret zcc.xe)
theorem zm7 : z3z.OK := XS.or_ok (z0a zcb) (XS.one_ok (z0a zcc))
def z3x : Shp := ⟨138, 0, [(0, .c .nilp), (5, .pt 0 r6 []), (6, .d (.int .i64)), (26, .d (.int .i64))], [.var 75 (.ag [.c .nilp, .d c4, .wn 1 (.int .u8), .d (.int .i64), .d .bool]), .row 5 (.int .u8)]⟩
abbrev z9l := Int × Int × T2 × Int × Bool × (List Int)
abbrev zdk := (T2 × Int × Bool × (List Int)) ⊕ ((List (List Int)) × Int)
def znx (room : Int) (t26 : Int) (j : T2) (j2 : Int) (j3 : Bool) (j4 : List Int) : Option (z9l ⊕ zdk) :=
 bif ltI t26 2 then
 (ziq t26).bind fun r =>
 bif neI r.2 0 then
 some (.inr (.inr ([], r.2)))
 else
 (zgm r.1 room).bind fun r2 =>
 bif ltI j.1 r2.1 then
 bif Nat.beq (List.length j4) (List.length j4) then
 some (.inl (room, W64 (t26 + 1), r2, j2, j3, j4))
 else none
 else
 bif Nat.beq (List.length j4) (List.length j4) then
 some (.inl (room, W64 (t26 + 1), j, j2, j3, j4))
 else none
 else
 bif Nat.beq (List.length j4) (List.length j4) then
 some (.inr (.inl (j, j2, j3, j4)))
 else none
def z3r (s : z9l) : Option (z9l ⊕ zdk) := znx s.1 s.2.1 s.2.2.1 s.2.2.2.1 s.2.2.2.2.1 s.2.2.2.2.2
theorem zms : SoundD Try.prog (.loop (subC (bodyC Try.f10) [1, 1, 1, 1, 0, 1, 0, 0])) (loopD z3x.xe z3z (loopC z3r)) :=
 z2a (S := z3x.xe) (X := z3z) zi6 (h := .no) (z0h [] (by kernel_rfl) trivial) (z0a z3x) zm7 z3r (fun s => by kernel_rfl)
def zaj : Shp := ⟨138, 0, [(5, .pt 0 r6 [])], [.var 75 (.ag [.c .nilp, .d c4, .wn 1 (.int .u8), .d (.int .i64), .d .bool]), .row 5 (.int .u8)]⟩
def zap : Shp := ⟨138, 0, [(2, .c .nilp), (3, .d c5), (4, .d (.int .i64))], []⟩
def z2i : XS := .or (.exit 2) zaj.xe (.one .ret zap.xe)
theorem zhy : z2i.OK := XS.or_ok (z0a zaj) (XS.one_ok (z0a zap))
def z2b : Shp := ⟨138, 0, [(0, .c .nilp), (5, .pt 0 r6 []), (12, .d (.int .i64))], [.var 75 (.ag [.c .nilp, .d c4, .wn 1 (.int .u8), .d (.int .i64), .d .bool]), .row 5 (.int .u8)]⟩
abbrev z7f := Int × T2 × Int × Bool × (List Int)
abbrev zbj := (T2 × Int × Bool × (List Int)) ⊕ ((List (List Int)) × Int)
def zlb (i : Int) (j : T2) (j2 : Int) (j3 : Bool) (j4 : List Int) : Option (z7f ⊕ zbj) :=
 bif ltI (W64 (i * 256)) j.2.2 then
 winK j4 0 (List.length j4) fun w =>
 (zir j w j2 j3 j.2.1 i).bind fun r =>
 (ziq r).bind fun r2 =>
 bif neI r2.2 0 then
 some (.inr (.inr ([], r2.2)))
 else
 bif Nat.beq (List.length j4) (List.length j4) then
 appG (List.length j4) (List.length r2.1) 1 fun _ =>
 bif Nat.beq (List.length (j4 ++ r2.1)) (List.length (j4 ++ r2.1)) then
 some (.inl (W64 (i + 1), j, j2, j3, j4 ++ r2.1))
 else none
 else none
 else
 bif Nat.beq (List.length j4) (List.length j4) then
 some (.inr (.inl (j, j2, j3, j4)))
 else none
def z2f (s : z7f) : Option (z7f ⊕ zbj) := zlb s.1 s.2.1 s.2.2.1 s.2.2.2.1 s.2.2.2.2
theorem zi3 : SoundD Try.prog (.loop (subC (bodyC Try.f10) [1, 1, 1, 1, 1, 1, 0, 1, 0, 0])) (loopD z2b.xe z2i (loopC z2f)) :=
 z2a (S := z2b.xe) (X := z2i) zi6 (h := .no) (z0h [] (by kernel_rfl) trivial) (z0a z2b) zhy z2f (fun s => by kernel_rfl)
def zr7 : Shp := ⟨1, 0, [(0, .tu [.c .nilp, .d c5, .d (.int .i64)])], []⟩
def zrl : Shp := ⟨1, 0, [(0, .tu [.pt 0 r6 [], .wn 1 (.sl (.int .u8)), .d (.int .i64)])], [.var 75 (.ag [.c .nilp, .d c4, .d (.sl (.int .u8)), .d (.int .i64), .d .bool]), .row 34 (.sl (.int .u8))]⟩
def zva : XS := .or .ret zr7.xe (.one .ret zrl.xe)
theorem z12z : zva.OK := XS.or_ok (z0a zr7) (XS.one_ok (z0a zrl))
def z4k  : Option (((List (List Int)) × Int) ⊕ (Int × T2 × (List Int) × Int × Bool × (List (List Int)))) :=
 (zjg).bind fun r =>
 bif ltI r 6 then
 some (.inl ([], 1))
 else
 (z9a).bind fun r2 =>
 bif Nat.beq 0 (List.length ([] : List Int)) then
 (loopC z3r (W64 (r2 * 256), 0, (0, 0, 0), 0, false, ([] : List Int))).bind fun o =>
 Sum.elim (fun y =>
 bif eqI y.1.1 0 then
 bif Nat.beq (List.length y.2.2.2) (List.length y.2.2.2) then
 (zlu (1, 0, 0) y.1 y.2.1 y.2.2.1 y.2.2.2).bind fun r3 =>
 bif neI r3.1 0 then
 some (.inl ([], r3.1))
 else
 bif Nat.beq 0 (List.length ([] : List (List Int))) then
 some (.inr (0, r3.2.1, r3.2.2.1, r3.2.2.2.1, r3.2.2.2.2, ([] : List (List Int))))
 else none
 else none
 else
 bif Nat.beq (List.length y.2.2.2) (List.length y.2.2.2) then
 (loopC z2f (0, y.1, y.2.1, y.2.2.1, y.2.2.2)).bind fun o2 =>
 Sum.elim (fun y3 =>
 bif subOk 0 y3.1.2.2 (List.length y3.2.2.2) && eqI y3.1.2.2 y3.1.2.2 then
 (zf0 (List.replicate y3.1.2.2.toNat true) y3.2.2.2).bind fun r4 =>
 bif neI r4.1 0 then
 some (.inl ([], r4.1))
 else
 z0j (List.length r4.2.2) (
 winK r4.2.1 0 y3.1.2.2.toNat fun w =>
 bif Nat.beq (List.length r4.2.2) (List.length r4.2.2) then
 some (.inr (0, y3.1, w, (List.length r4.2.2 : Nat), y3.2.2.1, r4.2.2))
 else none)
 else none) (fun y4 =>
 some (.inl (y4.1, y4.2))) o2
 else none) (fun y2 =>
 some (.inl (y2.1, y2.2))) o
 else none
def zmh : Sig := ⟨10, [.c .nilp], [], 0, zva⟩
def zl4 (x : Unit) : Option (((List (List Int)) × Int) ⊕ (Int × T2 × (List Int) × Int × Bool × (List (List Int)))) := z4k 
theorem zt0 : FnOK Try.prog zmh zl4 :=
 fn_ok zi6 (h := (.two .no (.two .no (.two .no (.two .no (.two (.two .no (.over (loopD z3x.xe z3z (loopC z3r)))) (.two .no (.two (.two .no (.over (loopD z2b.xe z2i (loopC z2f)))) .no)))))))) Try.func10 (z0h [.den (.loop (subC (bodyC Try.f10) [1, 1, 1, 1, 0, 1, 0, 0])) (loopD z3x.xe z3z (loopC z3r)), .den (.loop (subC (bodyC Try.f10) [1, 1, 1, 1, 1, 1, 0, 1, 0, 0])) (loopD z2b.xe z2i (loopC z2f))] (by kernel_rfl) ⟨zms, zi3, trivial⟩) (by kernel_rfl) z12z (fun x => by kernel_rfl)
def zwh : Env := ⟨[], [], []⟩
theorem zsh : EnvsOK Try.prog zwh := ⟨z0i _, z0g _, z0f _⟩
def zgl : Shp := ⟨1, 0, [(0, .d .bool)], []⟩
def zjt : XS := .one .ret zgl.xe
theorem zr5 : zjt.OK := XS.one_ok (z0a zgl)
def za6 (j : T2) (j2 : List Int) (j3 : Int) (j4 : Bool) : Option ((Bool)) :=
 some j4
def z8z : Sig := ⟨15, [.rf (.ag [.c .nilp, .d c4, .d (.sl (.int .u8)), .d (.int .i64), .d .bool])], [], 0, zjt⟩
def z8s (x : T2 × (List Int) × Int × Bool) : Option ((Bool)) := za6 x.1 x.2.1 x.2.2.1 x.2.2.2
theorem zbm : FnOK Try.prog z8z z8s :=
 fn_ok zsh (h := .no) Try.func15 (z0h [] (by kernel_rfl) trivial) (by kernel_rfl) zr5 (fun x => by kernel_rfl)
def z1eb : Env := ⟨[], [], []⟩
theorem zzh : EnvsOK Try.prog z1eb := ⟨z0i _, z0g _, z0f _⟩
def zaz : Shp := ⟨41, 0, [(4, .wn 0 (.int .u8)), (6, .d (.sl (.int .u8))), (9, .d c5), (10, .d (.int .i64)), (11, .d (.int .i64))], [.row 5 (.int .u8)]⟩
def zau : Shp := ⟨41, 0, [(2, .d (.sl (.int .u8))), (3, .d (.int .i64))], []⟩
def z7v : XS := .or .normal zaz.xe (.one .ret zau.xe)
theorem zjv : z7v.OK := XS.or_ok (z0a zaz) (XS.one_ok (z0a zau))
def zjs : Shp := ⟨41, 0, [(4, .wn 0 (.int .u8))], [.row 5 (.int .u8)]⟩
def zjr : Shp := ⟨41, 0, [(2, .d (.sl (.int .u8))), (3, .d (.int .i64))], []⟩
def z7y : XS := .or (.exit 0) zjs.xe (.one .ret zjr.xe)
theorem zt8 : z7y.OK := XS.or_ok (z0a zjs) (XS.one_ok (z0a zjr))
def z7t : Shp := ⟨41, 0, [(4, .wn 0 (.int .u8)), (9, .d c5), (10, .d (.int .i64)), (11, .d (.int .i64))], [.row 5 (.int .u8)]⟩
abbrev zdw := (List (List Int)) × Int × Int × (List Int)
abbrev zlh := ((List Int)) ⊕ ((List Int) × Int)
def z7w (t9 : List (List Int)) (t10 : Int) (t11 : Int) (out : List Int) : Option (zdw ⊕ zlh) :=
 bif ltI t11 t10 then
 (idxI t9 t11).bind fun x =>
 (show Option (((List Int) × (List (List Int)) × Int × Int × (List Int)) ⊕ ((List Int) × Int)) from
 z0j (List.length x) (
 bif ltI 65535 (List.length x : Nat) then
 some (.inr ([], 4))
 else
 bif ltI (List.length x : Nat) 255 then
 bif Nat.beq (List.length out) (List.length out) then
 appG (List.length out) (List.length ([WU8 ((List.length x : Nat))] : List Int)) 1 fun _ =>
 bif Nat.beq (List.length (out ++ ([WU8 ((List.length x : Nat))] : List Int))) (List.length (out ++ ([WU8 ((List.length x : Nat))] : List Int))) then
 some (.inl ((x, t9, t10, t11, out ++ ([WU8 ((List.length x : Nat))] : List Int))))
 else none
 else none
 else
 bif Nat.beq (List.length out) (List.length out) then
 appG (List.length out) (List.length ([255, WU8 (shI .shr .i64 (List.length x : Nat) 8), WU8 ((List.length x : Nat))] : List Int)) 1 fun _ =>
 bif Nat.beq (List.length (out ++ ([255, WU8 (shI .shr .i64 (List.length x : Nat) 8), WU8 ((List.length x : Nat))] : List Int))) (List.length (out ++ ([255, WU8 (shI .shr .i64 (List.length x : Nat) 8), WU8 ((List.length x : Nat))] : List Int))) then
 some (.inl ((x, t9, t10, t11, out ++ ([255, WU8 (shI .shr .i64 (List.length x : Nat) 8), WU8 ((List.length x : Nat))] : List Int))))
 else none
 else none)).bind fun j =>
 Sum.elim (fun y =>
 bif Nat.beq (List.length y.2.2.2.2) (List.length y.2.2.2.2) then
 appG (List.length y.2.2.2.2) (List.length y.1) 1 fun _ =>
 bif Nat.beq (List.length (y.2.2.2.2 ++ y.1)) (List.length (y.2.2.2.2 ++ y.1)) then
 some (.inl (y.2.1, y.2.2.1, W64 (y.2.2.2.1 + 1), y.2.2.2.2 ++ y.1))
 else none
 else none) (fun y2 =>
 some (.inr (.inr (y2.1, y2.2)))) j
 else
 bif Nat.beq (List.length out) (List.length out) then
 some (.inr (.inl out))
 else none
def z5j (s : zdw) : Option (zdw ⊕ zlh) := z7w s.1 s.2.1 s.2.2.1 s.2.2.2
theorem zvn : SoundD Try.prog (.loop (subC (bodyC Try.f58) [1, 1, 0, 1, 0, 0])) (loopD z7t.xe z7y (loopC z5j)) :=
 z2a (S := z7t.xe) (X := z7y) zzh (h := (.two .no (.two .no (.two (.two .no (.join (fun _ => z7v) .no .no)) .no)))) (z0h [.xs (fun _ => z7v)] (by kernel_rfl) ⟨(z2l zjv), trivial⟩) (z0a z7t) zt8 z5j (fun s => by kernel_rfl)
def zzk : Shp := ⟨1, 0, [(0, .tu [.d (.sl (.int .u8)), .d (.int .i64)])], []⟩
def z13r : XS := .one .ret zzk.xe
theorem z1a2 : z13r.OK := XS.one_ok (z0a zzk)
def zt9 (fields : List (List Int)) : Option (((List Int) × Int)) :=
 z0j (List.length fields) (
 bif Nat.beq (List.length ([] : List Int)) (List.length ([] : List Int)) then
 (loopC z5j (fields, (List.length fields : Nat), 0, ([] : List Int))).bind fun o =>
 Sum.elim (fun y =>
 winK y 0 (List.length y) fun w =>
 some (w, 0)) (fun y2 =>
 some (y2.1, y2.2)) o
 else none)
def z14r : Sig := ⟨58, [.d c5], [], 0, z13r⟩
def z12j (x : (List (List Int))) : Option (((List Int) × Int)) := zt9 x
theorem z1e7 : FnOK Try.prog z14r z12j :=
 fn_ok zzh (h := (.two .no (.two (.reg [0] []) (.two (.two .no (.over (loopD z7t.xe z7y (loopC z5j)))) .no)))) Try.func58 (z0h [.den (.loop (subC (bodyC Try.f58) [1, 1, 0, 1, 0, 0])) (loopD z7t.xe z7y (loopC z5j))] (by kernel_rfl) ⟨zvn, trivial⟩) (by kernel_rfl) z1a2 (fun x => by kernel_rfl)
def z1el : Env := ⟨[(entQ z14a z11z)], [], []⟩
theorem z1c8 : EnvsOK Try.prog z1el := ⟨z0c (z0e z1ba) (z0i _), z0g _, z0f _⟩
def zzm : Shp := ⟨1, 0, [(0, .wn 0 (.int .u8))], [.row 5 (.int .u8)]⟩
def z14x : XS := .one .ret zzm.xe
theorem z1bf : z14x.OK := XS.one_ok (z0a zzm)
def ztq (b : List Int) : Option (((List Int))) :=
 (zyq b).bind fun r =>
 appG (List.length ([] : List Int)) (List.length b) 1 fun _ =>
 bif Nat.beq (List.length b) (List.length b) then
 appG (List.length b) (List.length ([WU8 (shI .shr .u32 r 24), WU8 (shI .shr .u32 r 16), WU8 (shI .shr .u32 r 8), WU8 (r)] : List Int)) 1 fun _ =>
 bif Nat.beq (List.length (b ++ ([WU8 (shI .shr .u32 r 24), WU8 (shI .shr .u32 r 16), WU8 (shI .shr .u32 r 8), WU8 (r)] : List Int))) (List.length (b ++ ([WU8 (shI .shr .u32 r 24), WU8 (shI .shr .u32 r 16), WU8 (shI .shr .u32 r 8), WU8 (r)] : List Int))) then
 some (b ++ ([WU8 (shI .shr .u32 r 24), WU8 (shI .shr .u32 r 16), WU8 (shI .shr .u32 r 8), WU8 (r)] : List Int))
 else none
 else none
def z14o : Sig := ⟨59, [.d (.sl (.int .u8))], [], 0, z14x⟩
def z12l (x : (List Int)) : Option (((List Int))) := ztq x
theorem z1e5 : FnOK Try.prog z14o z12l :=
 fn_ok z1c8 (h := (.two .no (.two .no (.two (.reg [2] []) .no)))) Try.func59 (z0h [] (by kernel_rfl) trivial) (by kernel_rfl) z1bf (fun x => by kernel_rfl)
def z1bq : Env := ⟨[(entQ z14r z12j)], [(entP z14o z12l)], []⟩
theorem zmp : EnvsOK Try.prog z1bq := ⟨z0c (z0e z1e7) (z0i _), z0k (z0r z1e5) (z0g _), z0f _⟩
def zgn : Shp := ⟨48, 0, [(0, .d c5), (1, .d (.int .i64)), (6, .wn 0 (.int .u8))], [.row 5 (.int .u8)]⟩
def zgo : Shp := ⟨48, 0, [(4, .d (.sl (.int .u8))), (5, .d (.int .i64))], []⟩
def z6k : XS := .or (.exit 0) zgn.xe (.one .ret zgo.xe)
theorem zqz : z6k.OK := XS.or_ok (z0a zgn) (XS.one_ok (z0a zgo))
def z6j : Shp := ⟨48, 0, [(0, .d c5), (1, .d (.int .i64)), (6, .wn 0 (.int .u8)), (13, .d c5), (14, .d (.int .i64)), (15, .d (.int .i64))], [.row 5 (.int .u8)]⟩
abbrev zc4 := (List (List Int)) × Int × (List (List Int)) × Int × Int × (List Int)
abbrev zjp := ((List (List Int)) × Int × (List Int)) ⊕ ((List Int) × Int)
def z6q (records : List (List Int)) (room : Int) (t13 : List (List Int)) (t14 : Int) (t15 : Int) (out : List Int) : Option (zc4 ⊕ zjp) :=
 bif ltI t15 t14 then
 (idxI t13 t15).bind fun x =>
 z0j (List.length x) (
 bif ltI 65531 (List.length x : Nat) then
 some (.inr (.inr ([], 4)))
 else
 bif Nat.beq (List.length out) (List.length out) then
 some (.inl (records, room, t13, t14, W64 (t15 + 1), out))
 else none)
 else
 bif Nat.beq (List.length out) (List.length out) then
 some (.inr (.inl (records, room, out)))
 else none
def z4i (s : zc4) : Option (zc4 ⊕ zjp) := z6q s.1 s.2.1 s.2.2.1 s.2.2.2.1 s.2.2.2.2.1 s.2.2.2.2.2
theorem zsg : SoundD Try.prog (.loop (subC (bodyC Try.f36) [1, 1, 0, 1, 0, 0])) (loopD z6j.xe z6k (loopC z4i)) :=
 z2a (S := z6j.xe) (X := z6k) zmp (h := .no) (z0h [] (by kernel_rfl) trivial) (z0a z6j) zqz z4i (fun s => by kernel_rfl)
def zf1 : Shp := ⟨48, 0, [(6, .wn 0 (.int .u8))], [.row 5 (.int .u8)]⟩
def zen : Shp := ⟨48, 0, [(4, .d (.sl (.int .u8))), (5, .d (.int .i64))], []⟩
def z4w : XS := .or (.exit 2) zf1.xe (.one .ret zen.xe)
theorem zp5 : z4w.OK := XS.or_ok (z0a zf1) (XS.one_ok (z0a zen))
def z5d : Shp := ⟨48, 0, [(1, .d (.int .i64)), (6, .wn 0 (.int .u8)), (23, .d c5), (24, .d (.int .i64)), (25, .d (.int .i64))], [.row 5 (.int .u8)]⟩
abbrev zba := Int × (List (List Int)) × Int × Int × (List Int)
abbrev zge := ((List Int)) ⊕ ((List Int) × Int)
def z4x (room : Int) (t23 : List (List Int)) (t24 : Int) (t25 : Int) (out : List Int) : Option (zba ⊕ zge) :=
 bif ltI t25 t24 then
 (idxI t23 t25).bind fun x =>
 z0j (List.length out) (
 bif ltI room (List.length out : Nat) then
 some (.inr (.inr ([], 5)))
 else
 (ztq x).bind fun r =>
 winK r 0 (List.length r) fun w =>
 (zt9 ([w] : List (List Int))).bind fun r2 =>
 bif neI r2.2 0 then
 some (.inr (.inr ([], r2.2)))
 else
 bif Nat.beq (List.length out) (List.length out) then
 appG (List.length out) (List.length r2.1) 1 fun _ =>
 bif Nat.beq (List.length (out ++ r2.1)) (List.length (out ++ r2.1)) then
 some (.inl (room, t23, t24, W64 (t25 + 1), out ++ r2.1))
 else none
 else none)
 else
 bif Nat.beq (List.length out) (List.length out) then
 some (.inr (.inl out))
 else none
def z5b (s : zba) : Option (zba ⊕ zge) := z4x s.1 s.2.1 s.2.2.1 s.2.2.2.1 s.2.2.2.2
theorem zpv : SoundD Try.prog (.loop (subC (bodyC Try.f36) [1, 1, 1, 0, 1, 0, 0])) (loopD z5d.xe z4w (loopC z5b)) :=
 z2a (S := z5d.xe) (X := z4w) zmp (h := (.two .no (.two .no (.two (.two .no (.two .no (.two (.reg [2000002] []) .no))) .no)))) (z0h [] (by kernel_rfl) trivial) (z0a z5d) zp5 z5b (fun s => by kernel_rfl)
def zvj : Shp := ⟨1, 0, [(0, .tu [.d (.sl (.int .u8)), .d (.int .i64)])], []⟩
def zzd : XS := .one .ret zvj.xe
theorem z16h : zzd.OK := XS.one_ok (z0a zvj)
def zc0 (records : List (List Int)) (room : Int) : Option (((List Int) × Int)) :=
 z0j (List.length records) (
 bif Nat.beq 0 (List.length ([] : List Int)) then
 (loopC z4i (records, room, records, (List.length records : Nat), 0, ([] : List Int))).bind fun o =>
 Sum.elim (fun y =>
 z0j (List.length y.1) (
 bif Nat.beq (List.length y.2.2) (List.length y.2.2) then
 (loopC z5b (y.2.1, y.1, (List.length y.1 : Nat), 0, y.2.2)).bind fun o2 =>
 Sum.elim (fun y3 =>
 winK y3 0 (List.length y3) fun w =>
 some (w, 0)) (fun y4 =>
 some (y4.1, y4.2)) o2
 else none)) (fun y2 =>
 some (y2.1, y2.2)) o
 else none)
def zf4 : Sig := ⟨36, [.d c5, .d (.int .i64)], [], 0, zzd⟩
def zdb (x : (List (List Int)) × Int) : Option (((List Int) × Int)) := zc0 x.1 x.2
theorem zht : FnOK Try.prog zf4 zdb :=
 fn_ok zmp (h := (.two .no (.two .no (.two (.two .no (.over (loopD z6j.xe z6k (loopC z4i)))) (.two (.two .no (.over (loopD z5d.xe z4w (loopC z5b)))) .no))))) Try.func36 (z0h [.den (.loop (subC (bodyC Try.f36) [1, 1, 0, 1, 0, 0])) (loopD z6j.xe z6k (loopC z4i)), .den (.loop (subC (bodyC Try.f36) [1, 1, 1, 0, 1, 0, 0])) (loopD z5d.xe z4w (loopC z5b))] (by kernel_rfl) ⟨zsg, zpv, trivial⟩) (by kernel_rfl) z16h (fun x => by kernel_rfl)
def z16d : Env := ⟨[], [(entP z11w zy6)], []⟩
theorem zgy : EnvsOK Try.prog z16d := ⟨z0i _, z0k (z0r z17i) (z0g _), z0f _⟩
def zee : Shp := ⟨36, 0, [(0, .d c5), (3, .d (.int .i64))], []⟩
def z4n : XS := .one (.exit 0) zee.xe
theorem zo1 : z4n.OK := XS.one_ok (z0a zee)
def z4m : Shp := ⟨36, 0, [(0, .d c5), (3, .d (.int .i64)), (9, .d c5), (10, .d (.int .i64)), (11, .d (.int .i64))], []⟩
abbrev zaf := (List (List Int)) × Int × (List (List Int)) × Int × Int
abbrev zfj := ((List (List Int)) × Int)
def zri (slices : List (List Int)) (size : Int) (t9 : List (List Int)) (t10 : Int) (t11 : Int) : Option (zaf ⊕ zfj) :=
 bif ltI t11 t10 then
 (idxI t9 t11).bind fun x =>
 z0j (List.length x) (
 bif ltI (W64 (size + (List.length x : Nat))) 0 then
 none
 else
 some (.inl (slices, W64 (size + (List.length x : Nat)), t9, t10, W64 (t11 + 1))))
 else
 some (.inr (slices, size))
def z2z (s : zaf) : Option (zaf ⊕ zfj) := zri s.1 s.2.1 s.2.2.1 s.2.2.2.1 s.2.2.2.2
theorem zox : SoundD Try.prog (.loop (subC (bodyC Try.f38) [1, 1, 0, 1, 0, 0])) (loopD z4m.xe z4n (loopC z2z)) :=
 z2a (S := z4m.xe) (X := z4n) zgy (h := .no) (z0h [] (by kernel_rfl) trivial) (z0a z4m) zo1 z2z (fun s => by kernel_rfl)
def zbw : Shp := ⟨36, 0, [(6, .wn 0 (.int .u8))], [.row 5 (.int .u8)]⟩
def z3g : XS := .one (.exit 2) zbw.xe
theorem zl6 : z3g.OK := XS.one_ok (z0a zbw)
def z3f : Shp := ⟨36, 0, [(6, .wn 0 (.int .u8)), (25, .d c5), (26, .d (.int .i64)), (27, .d (.int .i64))], [.row 5 (.int .u8)]⟩
abbrev z8v := (List (List Int)) × Int × Int × (List Int)
abbrev zcl := ((List Int))
def zno (t25 : List (List Int)) (t26 : Int) (t27 : Int) (newslice : List Int) : Option (z8v ⊕ zcl) :=
 bif ltI t27 t26 then
 (idxI t25 t27).bind fun x =>
 bif Nat.beq (List.length newslice) (List.length newslice) then
 appG (List.length newslice) (List.length x) 1 fun _ =>
 bif Nat.beq (List.length (newslice ++ x)) (List.length (newslice ++ x)) then
 some (.inl (t25, t26, W64 (t27 + 1), newslice ++ x))
 else none
 else none
 else
 bif Nat.beq (List.length newslice) (List.length newslice) then
 some (.inr newslice)
 else none
def z1x (s : z8v) : Option (z8v ⊕ zcl) := zno s.1 s.2.1 s.2.2.1 s.2.2.2
theorem zle : SoundD Try.prog (.loop (subC (bodyC Try.f38) [1, 1, 1, 1, 0, 1, 0, 0])) (loopD z3f.xe z3g (loopC z1x)) :=
 z2a (S := z3f.xe) (X := z3g) zgy (h := .no) (z0h [] (by kernel_rfl) trivial) (z0a z3f) zl6 z1x (fun s => by kernel_rfl)
def zpf : Shp := ⟨1, 0, [(0, .d (.sl (.int .u8)))], []⟩
def zsy : XS := .one .ret zpf.xe
theorem z11c : zsy.OK := XS.one_ok (z0a zpf)
def zdh (slices : List (List Int)) : Option (((List Int))) :=
 z0j (List.length slices) (
 (loopC z2z (slices, 0, slices, (List.length slices : Nat), 0)).bind fun o =>
 (z12b o.2).bind fun r =>
 z0j (List.length o.1) (
 bif Nat.beq (List.length r) (List.length r) then
 (loopC z1x (o.1, (List.length o.1 : Nat), 0, r)).bind fun o2 =>
 winK o2 0 (List.length o2) fun w =>
 some w
 else none))
def zl2 : Sig := ⟨38, [.d c5], [], 0, zsy⟩
def zjw (x : (List (List Int))) : Option (((List Int))) := zdh x
theorem zrj : FnOK Try.prog zl2 zjw :=
 fn_ok zgy (h := (.two .no (.two .no (.two (.two .no (.over (loopD z4m.xe z4n (loopC z2z)))) (.two .no (.two (.two .no (.over (loopD z3f.xe z3g (loopC z1x)))) .no)))))) Try.func38 (z0h [.den (.loop (subC (bodyC Try.f38) [1, 1, 0, 1, 0, 0])) (loopD z4m.xe z4n (loopC z2z)), .den (.loop (subC (bodyC Try.f38) [1, 1, 1, 1, 0, 1, 0, 0])) (loopD z3f.xe z3g (loopC z1x))] (by kernel_rfl) ⟨zox, zle, trivial⟩) (by kernel_rfl) z11c (fun x => by kernel_rfl)
def zx3 : Env := ⟨[(entQ z7g z6p), (entQ zg7 zeu), (entQ zb4 za8), (entQ z9t z9b)], [(entP zie zho)], []⟩
theorem zha : EnvsOK Try.prog zx3 := ⟨z0c (z0e z8p) (z0c (z0e zn3) (z0c (z0e ze2) (z0c (z0e zc6) (z0i _)))), z0k (z0r ztm) (z0g _), z0f _⟩
def zb6 : Shp := ⟨99, 1, [(0, .pt 0 r6 []), (1, .d (.int .i64)), (3, .d (.sl (.int .u8))), (4, .d (.int .i64))], [.var 75 (.ag [.c .nilp, .d c4, .d (.sl (.int .u8)), .d (.int .i64), .d .bool])]⟩
def zb1 : Shp := ⟨99, 1, [(10, .d (.int .i64))], [.var 75 (.ag [.c .nilp, .d c4, .d (.sl (.int .u8)), .d (.int .i64), .d .bool])]⟩
def z2q : XS := .or (.exit 0) zb6.xe (.one .ret zb1.xe)
theorem zja : z2q.OK := XS.or_ok (z0a zb6) (XS.one_ok (z0a zb1))
def z2n : Shp := ⟨99, 1, [(0, .pt 0 r6 []), (1, .d (.int .i64)), (3, .d (.sl (.int .u8))), (4, .d (.int .i64)), (11, .d (.int .i64))], [.var 75 (.ag [.c .nilp, .d c4, .d (.sl (.int .u8)), .d (.int .i64), .d .bool])]⟩
abbrev z7u := Int × (List Int) × Int × Int × T2 × (List Int) × Int × Bool
abbrev zbr := (Int × (List Int) × Int × T2 × (List Int) × Int × Bool) ⊕ (Int × T2 × (List Int) × Int × Bool)
def zm5 (side : Int) (all : List Int) (count : Int) (i : Int) (j : T2) (j2 : List Int) (j3 : Int) (j4 : Bool) : Option (z7u ⊕ zbr) :=
 z0j (List.length all) (
 bif ltI (W64 (i * 256)) (List.length all : Nat) then
 bif subOk (W64 (i * 256)) (List.length all : Nat) (List.length all) then
 bif Nat.ble 256 (List.length (List.replicate 256 (0 : Int))) then
 (zir j j2 j3 j4 side i).bind fun r =>
 winK (cpyL (List.replicate 256 (0 : Int)) 0 256 (subL all (W64 (i * 256)) (List.length all : Nat))) 0 256 fun w =>
 (zch r w).bind fun r2 =>
 bif neI r2 0 then
 some (.inr (.inr (r2, j, j2, j3, true)))
 else
 some (.inl (side, all, count, W64 (i + 1), j, j2, j3, j4))
 else none
 else none
 else
 some (.inr (.inl (side, all, count, j, j2, j3, j4))))
def z2s (s : z7u) : Option (z7u ⊕ zbr) := zm5 s.1 s.2.1 s.2.2.1 s.2.2.2.1 s.2.2.2.2.1 s.2.2.2.2.2.1 s.2.2.2.2.2.2.1 s.2.2.2.2.2.2.2
theorem zk1 : SoundD Try.prog (.loop (subC (bodyC Try.f37) [1, 1, 0, 1, 0, 0])) (loopD z2n.xe z2q (loopC z2s)) :=
 z2a (S := z2n.xe) (X := z2q) zha (h := .no) (z0h [] (by kernel_rfl) trivial) (z0a z2n) zja z2s (fun s => by kernel_rfl)
def zhf : Shp := ⟨1, 1, [(0, .d (.int .i64))], [.var 75 (.ag [.c .nilp, .d c4, .d (.sl (.int .u8)), .d (.int .i64), .d .bool])]⟩
def zkt : XS := .one .ret zhf.xe
theorem zsl : zkt.OK := XS.one_ok (z0a zhf)
def zf9 (side : Int) (there : Int) (all : List Int) (count : Int) (j : T2) (j2 : List Int) (j3 : Int) (j4 : Bool) : Option ((Int × T2 × (List Int) × Int × Bool)) :=
 bif eqI j.1 4611686018427387904 then
 some (5, j, j2, j3, j4)
 else
 z0j (List.length all) (
 (z9a).bind fun r =>
 bif ltI (W64 (r * 256)) (List.length all : Nat) then
 some (5, j, j2, j3, j4)
 else
 (loopC z2s (side, all, count, W64 (Int.tdiv there 256), j, j2, j3, j4)).bind fun o =>
 Sum.elim (fun y =>
 (zax).bind fun r2 =>
 bif neI r2 0 then
 some (r2, y.2.2.2.1, y.2.2.2.2.1, y.2.2.2.2.2.1, true)
 else
 z0j (List.length y.2.1) (
 (zlq (WU64 (y.2.2.2.1.1 + 1), y.1, (List.length y.2.1 : Nat)) y.2.2.2.1 y.2.2.2.2.1 y.2.2.2.2.2.1 y.2.2.2.2.2.2).bind fun r3 =>
 bif neI r3.1 0 then
 some (r3.1, r3.2.1, r3.2.2.1, r3.2.2.2.1, r3.2.2.2.2)
 else
 some (0, r3.2.1, y.2.1, y.2.2.1, r3.2.2.2.2))) (fun y2 =>
 some (y2.1, y2.2.1, y2.2.2.1, y2.2.2.2.1, y2.2.2.2.2)) o)
def zcq : Sig := ⟨37, [.pt 0 r6 [], .d (.int .i64), .d (.int .i64), .d (.sl (.int .u8)), .d (.int .i64)], [.var 75 (.ag [.c .nilp, .d c4, .d (.sl (.int .u8)), .d (.int .i64), .d .bool])], 1, zkt⟩
def zcd (x : Int × Int × (List Int) × Int × T2 × (List Int) × Int × Bool) : Option ((Int × T2 × (List Int) × Int × Bool)) := zf9 x.1 x.2.1 x.2.2.1 x.2.2.2.1 x.2.2.2.2.1 x.2.2.2.2.2.1 x.2.2.2.2.2.2.1 x.2.2.2.2.2.2.2
theorem zi8 : FnOK Try.prog zcq zcd :=
 fn_ok zha (h := (.two .no (.two .no (.two (.two .no (.over (loopD z2n.xe z2q (loopC z2s)))) .no)))) Try.func37 (z0h [.den (.loop (subC (bodyC Try.f37) [1, 1, 0, 1, 0, 0])) (loopD z2n.xe z2q (loopC z2s))] (by kernel_rfl) ⟨zk1, trivial⟩) (by kernel_rfl) zsl (fun x => by kernel_rfl)
def zx2 : Env := ⟨[(entQ z8z z8s), (entQ z7g z6p), (entQ zf4 zdb), (entQ zl2 zjw)], [(entP zcq zcd)], []⟩
theorem ztr : EnvsOK Try.prog zx2 := ⟨z0c (z0e zbm) (z0c (z0e z8p) (z0c (z0e zht) (z0c (z0e zrj) (z0i _)))), z0k (z0r zi8) (z0g _), z0f _⟩
def zhs : Shp := ⟨1, 1, [(0, .d (.int .i64))], [.var 75 (.ag [.c .nilp, .d c4, .d (.sl (.int .u8)), .d (.int .i64), .d .bool])]⟩
def zkk : XS := .one .ret zhs.xe
theorem zrx : zkk.OK := XS.one_ok (z0a zhs)
def z6f (records : List (List Int)) (j : T2) (j2 : List Int) (j3 : Int) (j4 : Bool) : Option ((Int × T2 × (List Int) × Int × Bool)) :=
 (za6 j j2 j3 j4).bind fun r =>
 bif r then
 some (3, j, j2, j3, j4)
 else
 (z9a).bind fun r2 =>
 (zc0 records (W64 (r2 * 256))).bind fun r3 =>
 bif neI r3.2 0 then
 some (r3.2, j, j2, j3, j4)
 else
 z0j (List.length records) (
 bif eqI (List.length records : Nat) 0 then
 some (r3.2, j, j2, j3, j4)
 else
 z0j (List.length j2) (
 (zdh ([j2, r3.1] : List (List Int))).bind fun r4 =>
 z0j (List.length records) (
 (zf9 j.2.1 (List.length j2 : Nat) r4 (W64 (j3 + (List.length records : Nat))) j j2 j3 j4).bind fun r5 =>
 some (r5.1, r5.2.1, r5.2.2.1, r5.2.2.2.1, r5.2.2.2.2))))
def zcv : Sig := ⟨11, [.pt 0 r6 [], .d c5], [.var 75 (.ag [.c .nilp, .d c4, .d (.sl (.int .u8)), .d (.int .i64), .d .bool])], 1, zkk⟩
def zc3 (x : (List (List Int)) × T2 × (List Int) × Int × Bool) : Option ((Int × T2 × (List Int) × Int × Bool)) := z6f x.1 x.2.1 x.2.2.1 x.2.2.2.1 x.2.2.2.2
theorem zjh : FnOK Try.prog zcv zc3 :=
 fn_ok ztr (h := (.two .no (.two .no (.two .no (.two .no (.two (.reg [] [25, 0, 1]) .no)))))) Try.func11 (z0h [] (by kernel_rfl) trivial) (by kernel_rfl) zrx (fun x => by kernel_rfl)
def zy0 : Env := ⟨[(entQ z7g z6p)], [], []⟩
theorem zvs : EnvsOK Try.prog zy0 := ⟨z0c (z0e z8p) (z0i _), z0g _, z0f _⟩
def ziu : Shp := ⟨1, 0, [(0, .d (.int .i64))], []⟩
def zlw : XS := .one .ret ziu.xe
theorem ztv : zlw.OK := XS.one_ok (z0a ziu)
def znz (j : T2) (j2 : List Int) (j3 : Int) (j4 : Bool) : Option ((Int)) :=
 (z9a).bind fun r =>
 z0j (List.length j2) (
 some (W64 ((W64 (r * 256)) - (List.length j2 : Nat))))
def zlf : Sig := ⟨13, [.rf (.ag [.c .nilp, .d c4, .d (.sl (.int .u8)), .d (.int .i64), .d .bool])], [], 0, zlw⟩
def zku (x : T2 × (List Int) × Int × Bool) : Option ((Int)) := znz x.1 x.2.1 x.2.2.1 x.2.2.2
theorem zwv : FnOK Try.prog zlf zku :=
 fn_ok zvs (h := .no) Try.func13 (z0h [] (by kernel_rfl) trivial) (by kernel_rfl) ztv (fun x => by kernel_rfl)
def zzq : Env := ⟨[], [], []⟩
theorem zwn : EnvsOK Try.prog zzq := ⟨z0i _, z0g _, z0f _⟩
def zky : Shp := ⟨1, 0, [(0, .d (.int .i64))], []⟩
def zn6 : XS := .one .ret zky.xe
theorem zvk : zn6.OK := XS.one_ok (z0a zky)
def zpd (j : T2) (j2 : List Int) (j3 : Int) (j4 : Bool) : Option ((Int)) :=
 some j3
def zne : Sig := ⟨14, [.rf (.ag [.c .nilp, .d c4, .d (.sl (.int .u8)), .d (.int .i64), .d .bool])], [], 0, zn6⟩
def zll (x : T2 × (List Int) × Int × Bool) : Option ((Int)) := zpd x.1 x.2.1 x.2.2.1 x.2.2.2
theorem zy3 : FnOK Try.prog zne zll :=
 fn_ok zwn (h := .no) Try.func14 (z0h [] (by kernel_rfl) trivial) (by kernel_rfl) zvk (fun x => by kernel_rfl)
def zy5 : Env := ⟨[], [], []⟩
theorem zw0 : EnvsOK Try.prog zy5 := ⟨z0i _, z0g _, z0f _⟩
def zjc : Shp := ⟨1, 0, [(0, .d (.int .i64))], []⟩
def zly : XS := .one .ret zjc.xe
theorem ztx : zly.OK := XS.one_ok (z0a zjc)
def z3v (d : T3) : Option ((Int)) :=
 z0j (List.length d.1) (
 some (List.length d.1 : Nat))
def ze5 : Sig := ⟨30, [.rf (.d c8)], [], 0, zly⟩
def zcu (x : T3) : Option ((Int)) := z3v x
theorem zkh : FnOK Try.prog ze5 zcu :=
 fn_ok zw0 (h := .no) Try.func30 (z0h [] (by kernel_rfl) trivial) (by kernel_rfl) ztx (fun x => by kernel_rfl)
def z12q : Env := ⟨[(entQ ze5 zcu)], [], []⟩
theorem zzl : EnvsOK Try.prog z12q := ⟨z0c (z0e zkh) (z0i _), z0g _, z0f _⟩
def znm : Shp := ⟨1, 0, [(0, .d (.int .i64))], []⟩
def zph : XS := .one .ret znm.xe
theorem zyi : zph.OK := XS.one_ok (z0a znm)
def z4g (d : T3) : Option ((Int)) :=
 (z3v d).bind fun r =>
 some (W64 (Int.tdiv (W64 (r - 2)) 2))
def z5q : Sig := ⟨31, [.rf (.d c8)], [], 0, zph⟩
def z4v (x : T3) : Option ((Int)) := z4g x
theorem z6u : FnOK Try.prog z5q z4v :=
 fn_ok zzl (h := .no) Try.func31 (z0h [] (by kernel_rfl) trivial) (by kernel_rfl) zyi (fun x => by kernel_rfl)
def z10b : Env := ⟨[], [], []⟩
theorem zwk : EnvsOK Try.prog z10b := ⟨z0i _, z0g _, z0f _⟩
def zkw : Shp := ⟨1, 0, [(0, .d .bool)], []⟩
def znl : XS := .one .ret zkw.xe
theorem zux : znl.OK := XS.one_ok (z0a zkw)
def z5o (d : T3) : Option ((Bool)) :=
 some d.2.2.2.2.2
def zay : Sig := ⟨39, [.rf (.d c8)], [], 0, znl⟩
def za9 (x : T3) : Option ((Bool)) := z5o x
theorem zdq : FnOK Try.prog zay za9 :=
 fn_ok zwk (h := .no) Try.func39 (z0h [] (by kernel_rfl) trivial) (by kernel_rfl) zux (fun x => by kernel_rfl)
def zyw : Env := ⟨[(entQ zay za9)], [], []⟩
theorem zwo : EnvsOK Try.prog zyw := ⟨z0c (z0e zdq) (z0i _), z0g _, z0f _⟩
def zkr : Shp := ⟨1, 0, [(0, .d (.int .i64))], []⟩
def znb : XS := .one .ret zkr.xe
theorem zvi : znb.OK := XS.one_ok (z0a zkr)
def z7r (d : T3) (i : Int) : Option ((Int)) :=
 (z5o d).bind fun r =>
 bif r then
 some 6
 else
 bif ltI i 0 then
 some 2
 else
 z0j (List.length d.1) (
 bif leI (List.length d.1 : Nat) i then
 some 2
 else
 some 0)
def zb8 : Sig := ⟨51, [.rf (.d c8), .d (.int .i64)], [], 0, znb⟩
def zaa (x : T3 × Int) : Option ((Int)) := z7r x.1 x.2
theorem zdy : FnOK Try.prog zb8 zaa :=
 fn_ok zwo (h := .no) Try.func51 (z0h [] (by kernel_rfl) trivial) (by kernel_rfl) zvi (fun x => by kernel_rfl)
def z1dx : Env := ⟨[], [], []⟩
theorem z1ap : EnvsOK Try.prog z1dx := ⟨z0i _, z0g _, z0f _⟩
def zxe : Shp := ⟨1, 0, [(0, .fs c9)], []⟩
def z12k : XS := .one .ret zxe.xe
theorem z17v : z12k.OK := XS.one_ok (z0a zxe)
def zlo (t0 : List T0) : Option (((List T0))) :=
 z0j (List.length t0) (
 z0j (List.length t0) (
 bif subOk 0 (List.length t0 : Nat) (List.length t0) && eqI (List.length t0 : Nat) (List.length t0 : Nat) then
 some (subL t0 0 (List.length t0 : Nat))
 else none))
def zrw : Sig := ⟨71, [.d c2], [], 0, z12k⟩
def zpm (x : (List T0)) : Option (((List T0))) := zlo x
theorem z10g : FnOK Try.prog zrw zpm :=
 fn_ok z1ap (h := .no) Try.func71 (z0h [] (by kernel_rfl) trivial) (by kernel_rfl) z17v (fun x => by kernel_rfl)
def zy7 : Env := ⟨[(entQ zb8 zaa)], [], []⟩
theorem zig : EnvsOK Try.prog zy7 := ⟨z0c (z0e zdy) (z0i _), z0g _, z0f _⟩
def zag : Shp := ⟨40, 1, [(7, .pt 1 (.one (.arr 256 .leaf)) [])], [.var 71 (.ag [.wn 2 c1, .d c2, .d (.int .i64), .d c3, .d (.int .i64), .d .bool]), .var 86 (.d c1), .row 86 c1]⟩
def z2g : XS := .one (.exit 0) zag.xe
theorem zhx : z2g.OK := XS.one_ok (z0a zag)
def z2c : Shp := ⟨40, 1, [(1, .d (.int .i64)), (7, .pt 1 (.one (.arr 256 .leaf)) []), (26, .d c2), (27, .d (.int .i64)), (28, .d (.int .i64))], [.var 71 (.ag [.wn 2 c1, .d c2, .d (.int .i64), .d c3, .d (.int .i64), .d .bool]), .var 86 (.d c1), .row 86 c1]⟩
abbrev z7i := Int × (List T0) × Int × Int × (List T0) × Int × T1 × Int × Bool × (List Int) × (List (List Int))
abbrev zbh := ((List T0) × Int × T1 × Int × Bool × (List Int) × (List (List Int)))
def z2d (i : Int) (t26 : List T0) (t27 : Int) (t28 : Int) (h : List T0) (h2 : Int) (h3 : T1) (h4 : Int) (h5 : Bool) (t7 : List Int) (h6 : List (List Int)) : Option (z7i ⊕ zbh) :=
 bif ltI t28 t27 then
 (idxI t26 t28).bind fun x =>
 bif eqI x.1 i then
 bif Nat.beq (List.length h6) (List.length h6) then
 some (.inl (i, t26, t27, W64 (t28 + 1), h, h2, h3, h4, h5, x.2, h6))
 else none
 else
 bif Nat.beq (List.length h6) (List.length h6) then
 some (.inl (i, t26, t27, W64 (t28 + 1), h, h2, h3, h4, h5, t7, h6))
 else none
 else
 bif Nat.beq (List.length h6) (List.length h6) then
 some (.inr (h, h2, h3, h4, h5, t7, h6))
 else none
def z0t (s : z7i) : Option (z7i ⊕ zbh) := z2d s.1 s.2.1 s.2.2.1 s.2.2.2.1 s.2.2.2.2.1 s.2.2.2.2.2.1 s.2.2.2.2.2.2.1 s.2.2.2.2.2.2.2.1 s.2.2.2.2.2.2.2.2.1 s.2.2.2.2.2.2.2.2.2.1 s.2.2.2.2.2.2.2.2.2.2
theorem zjk : SoundD Try.prog (.loop (subC (bodyC Try.f28) [1, 1, 1, 0, 1, 0, 0])) (loopD z2c.xe z2g (loopC z0t)) :=
 z2a (S := z2c.xe) (X := z2g) zig (h := .no) (z0h [] (by kernel_rfl) trivial) (z0a z2c) zhx z0t (fun s => by kernel_rfl)
def zj4 : Shp := ⟨1, 1, [(0, .tu [.wn 1 (.int .u8), .d (.int .i64)])], [.var 71 (.ag [.wn 2 c1, .d c2, .d (.int .i64), .d c3, .d (.int .i64), .d .bool]), .row 86 (.int .u8), .row 86 c1]⟩
def zm3 : XS := .one .ret zj4.xe
theorem zty : zm3.OK := XS.one_ok (z0a zj4)
def z4t (i : Int) (d : List T0) (d2 : Int) (d3 : T1) (d4 : Int) (d5 : Bool) (d6 : List (List Int)) : Option ((Int × (List T0) × Int × T1 × Int × Bool × (List Int) × (List (List Int)))) :=
 winK d6 0 (List.length d6) fun w =>
 (z7r (w, d, d2, d3, d4, d5) i).bind fun r =>
 bif neI r 0 then
 bif Nat.beq 0 (List.length ([] : List Int)) then
 bif Nat.beq (List.length d6) (List.length d6) then
 some (r, d, d2, d3, d4, d5, ([] : List Int), d6)
 else none
 else none
 else
 bif inI i (List.length d6) then
 (d6[i.toNat]?).bind fun x =>
 z0j (List.length d) (
 bif Nat.beq (List.length d6) (List.length d6) then
 (loopC z0t (i, d, (List.length d : Nat), 0, d, d2, d3, d4, d5, x, d6)).bind fun o =>
 bif Nat.beq 256 (List.length o.2.2.2.2.2.1) then
 bif Nat.beq (List.length o.2.2.2.2.2.2) (List.length o.2.2.2.2.2.2) then
 some (0, o.1, o.2.1, o.2.2.1, o.2.2.2.1, o.2.2.2.2.1, o.2.2.2.2.2.1, o.2.2.2.2.2.2)
 else none
 else none
 else none)
 else none
def zli : Sig := ⟨28, [.pt 0 r0 [], .d (.int .i64)], [.var 71 (.ag [.wn 1 c1, .d c2, .d (.int .i64), .d c3, .d (.int .i64), .d .bool]), .row 86 c1], 1, zm3⟩
def zk9 (x : Int × (List T0) × Int × T1 × Int × Bool × (List (List Int))) : Option ((Int × (List T0) × Int × T1 × Int × Bool × (List Int) × (List (List Int)))) := z4t x.1 x.2.1 x.2.2.1 x.2.2.2.1 x.2.2.2.2.1 x.2.2.2.2.2.1 x.2.2.2.2.2.2
theorem zwu : FnOK Try.prog zli zk9 :=
 fn_ok zig (h := (.two .no (.two .no (.two .no (.two (.two .no (.over (loopD z2c.xe z2g (loopC z0t)))) .no))))) Try.func28 (z0h [.den (.loop (subC (bodyC Try.f28) [1, 1, 1, 0, 1, 0, 0])) (loopD z2c.xe z2g (loopC z0t))] (by kernel_rfl) ⟨zjk, trivial⟩) (by kernel_rfl) zty (fun x => by kernel_rfl)
def z1bt : Env := ⟨[], [], []⟩
theorem zup : EnvsOK Try.prog z1bt := ⟨z0i _, z0g _, z0f _⟩
def zin : Shp := ⟨19, 0, [], []⟩
def zj1 : Shp := ⟨19, 0, [(4, .d (.int .i64))], []⟩
def z7x : XS := .or (.exit 0) zin.xe (.one .ret zj1.xe)
theorem zu7 : z7x.OK := XS.or_ok (z0a zin) (XS.one_ok (z0a zj1))
def z7z : Shp := ⟨19, 0, [(0, .d (.sl (.int .i64))), (1, .d (.int .i64)), (7, .d (.int .i64)), (8, .d (.int .i64))], []⟩
abbrev zds := (List Int) × Int × Int × Int
abbrev zlp := (Unit) ⊕ (Int)
def za7 (t0 : List Int) (v : Int) (t7 : Int) (t8 : Int) : Option (zds ⊕ zlp) :=
 bif ltI t8 t7 then
 (idxI t0 t8).bind fun x =>
 bif eqI v x then
 some (.inr (.inr t8))
 else
 some (.inl (t0, v, t7, W64 (t8 + 1)))
 else
 some (.inr (.inl ()))
def z2o (s : zds) : Option (zds ⊕ zlp) := za7 s.1 s.2.1 s.2.2.1 s.2.2.2
theorem zvw : SoundD Try.prog (.loop (subC (bodyC Try.f61) [1, 0, 1, 0, 0])) (loopD z7z.xe z7x (loopC z2o)) :=
 z2a (S := z7z.xe) (X := z7x) zup (h := .no) (z0h [] (by kernel_rfl) trivial) (z0a z7z) zu7 z2o (fun s => by kernel_rfl)
def zv3 : Shp := ⟨1, 0, [(0, .d (.int .i64))], []⟩
def zyz : XS := .one .ret zv3.xe
theorem z16j : zyz.OK := XS.one_ok (z0a zv3)
def zun (t0 : List Int) (v : Int) : Option ((Int)) :=
 z0j (List.length t0) (
 (loopC z2o (t0, v, (List.length t0 : Nat), 0)).bind fun o =>
 Sum.elim (fun y =>
 some (-1)) (fun y2 =>
 some y2) o)
def zzw : Sig := ⟨61, [.d (.sl (.int .i64)), .d (.int .i64)], [], 0, zyz⟩
def zxa (x : (List Int) × Int) : Option ((Int)) := zun x.1 x.2
theorem z1ae : FnOK Try.prog zzw zxa :=
 fn_ok zup (h := (.two .no (.two (.two .no (.over (loopD z7z.xe z7x (loopC z2o)))) .no))) Try.func61 (z0h [.den (.loop (subC (bodyC Try.f61) [1, 0, 1, 0, 0])) (loopD z7z.xe z7x (loopC z2o))] (by kernel_rfl) ⟨zvw, trivial⟩) (by kernel_rfl) z16j (fun x => by kernel_rfl)
def z16k : Env := ⟨[(entQ zzw zxa)], [], []⟩
theorem z13a : EnvsOK Try.prog z16k := ⟨z0c (z0e z1ae) (z0i _), z0g _, z0f _⟩
def zp9 : Shp := ⟨1, 0, [(0, .d .bool)], []⟩
def zsz : XS := .one .ret zp9.xe
theorem z11s : zsz.OK := XS.one_ok (z0a zp9)
def zhn (t0 : List Int) (v : Int) : Option ((Bool)) :=
 (zun t0 v).bind fun r =>
 some (leI 0 r)
def zt1 : Sig := ⟨40, [.d (.sl (.int .i64)), .d (.int .i64)], [], 0, zsz⟩
def zrs (x : (List Int) × Int) : Option ((Bool)) := zhn x.1 x.2
theorem z13o : FnOK Try.prog zt1 zrs :=
 fn_ok z13a (h := .no) Try.func40 (z0h [] (by kernel_rfl) trivial) (by kernel_rfl) z11s (fun x => by kernel_rfl)
def zzg : Env := ⟨[(entQ zay za9), (entQ zt1 zrs)], [], []⟩
theorem zkx : EnvsOK Try.prog zzg := ⟨z0c (z0e zdq) (z0c (z0e z13o) (z0i _)), z0g _, z0f _⟩
def z6y : Shp := ⟨53, 1, [(0, .pt 0 r0 []), (3, .pt 1 r7 []), (5, .pt 2 r10 []), (6, .d (.int .i64)), (12, .d c2), (13, .d (.int .i64)), (14, .d (.int .i64))], [.var 71 (.ag [.wn 3 c1, .d c2, .d (.int .i64), .d c3, .d (.int .i64), .d .bool]), .var 38 (.d c3), .var 88 (.d c9), .row 86 c1]⟩
def z4c : XS := .one .normal z6y.xe
theorem zci : z4c.OK := XS.one_ok (z0a z6y)
def zbs : Shp := ⟨53, 1, [(0, .pt 0 r0 [])], [.var 71 (.ag [.wn 1 c1, .d c2, .d (.int .i64), .d c3, .d (.int .i64), .d .bool]), .row 86 c1]⟩
def z3i : XS := .one (.exit 0) zbs.xe
theorem zld : z3i.OK := XS.one_ok (z0a zbs)
def z3j : Shp := ⟨53, 1, [(0, .pt 0 r0 []), (3, .pt 1 r7 []), (12, .d c2), (13, .d (.int .i64)), (14, .d (.int .i64))], [.var 71 (.ag [.wn 2 c1, .d c2, .d (.int .i64), .d c3, .d (.int .i64), .d .bool]), .var 38 (.d c3), .row 86 c1]⟩
abbrev z8u := (List T0) × Int × Int × (List T0) × Int × T1 × Int × Bool × T1 × (List (List Int))
abbrev zck := ((List T0) × Int × T1 × Int × Bool × (List (List Int)))
def z3h (t12 : List T0) (t13 : Int) (t14 : Int) (d : List T0) (d2 : Int) (d3 : T1) (d4 : Int) (d5 : Bool) (c : T1) (d6 : List (List Int)) : Option (z8u ⊕ zck) :=
 bif ltI t14 t13 then
 (idxI t12 t14).bind fun x =>
 (show Option ((Int × (List T0) × Int × Int × (List T0) × Int × T1 × Int × Bool × T1 × T0 × (List (List Int)))) from
 (zhn c.1 t14).bind fun r =>
 bif r then
 bif Nat.beq (List.length d6) (List.length d6) then
 some (256, t12, t13, t14, d, d2, d3, d4, d5, c, x, d6)
 else none
 else
 bif eqI c.2.1 t14 then
 bif Nat.beq (List.length d6) (List.length d6) then
 some (maxI 0 (minI c.2.2 256), t12, t13, t14, d, d2, d3, d4, d5, c, x, d6)
 else none
 else
 bif Nat.beq (List.length d6) (List.length d6) then
 some (0, t12, t13, t14, d, d2, d3, d4, d5, c, x, d6)
 else none).bind fun j =>
 bif inI j.2.2.2.2.2.2.2.2.2.2.1.1 (List.length j.2.2.2.2.2.2.2.2.2.2.2) then
 (j.2.2.2.2.2.2.2.2.2.2.2[j.2.2.2.2.2.2.2.2.2.2.1.1.toNat]?).bind fun x2 =>
 bif subOk 0 j.1 256 then
 winK j.2.2.2.2.2.2.2.2.2.2.1.2 0 256 fun w =>
 (j.2.2.2.2.2.2.2.2.2.2.2[j.2.2.2.2.2.2.2.2.2.2.1.1.toNat]?).bind fun x3 =>
 bif Nat.ble j.1.toNat (List.length x3) then
 (j.2.2.2.2.2.2.2.2.2.2.2[j.2.2.2.2.2.2.2.2.2.2.1.1.toNat]?).bind fun _x =>
 bif Nat.beq (List.length j.2.2.2.2.2.2.2.2.2.2.2) (List.length (j.2.2.2.2.2.2.2.2.2.2.2.set j.2.2.2.2.2.2.2.2.2.2.1.1.toNat (cpyL x3 0 j.1.toNat w))) then
 some (.inl (j.2.1, j.2.2.1, W64 (j.2.2.2.1 + 1), j.2.2.2.2.1, j.2.2.2.2.2.1, j.2.2.2.2.2.2.1, j.2.2.2.2.2.2.2.1, j.2.2.2.2.2.2.2.2.1, j.2.2.2.2.2.2.2.2.2.1, j.2.2.2.2.2.2.2.2.2.2.2.set j.2.2.2.2.2.2.2.2.2.2.1.1.toNat (cpyL x3 0 j.1.toNat w)))
 else none
 else none
 else none
 else none
 else
 bif Nat.beq (List.length d6) (List.length d6) then
 some (.inr (d, d2, d3, d4, d5, d6))
 else none
def z0w (s : z8u) : Option (z8u ⊕ zck) := z3h s.1 s.2.1 s.2.2.1 s.2.2.2.1 s.2.2.2.2.1 s.2.2.2.2.2.1 s.2.2.2.2.2.2.1 s.2.2.2.2.2.2.2.1 s.2.2.2.2.2.2.2.2.1 s.2.2.2.2.2.2.2.2.2
theorem zlr : SoundD Try.prog (.loop (subC (bodyC Try.f17) [1, 1, 0, 1, 0, 0])) (loopD z3j.xe z3i (loopC z0w)) :=
 z2a (S := z3j.xe) (X := z3i) zkx (h := (.two .no (.two .no (.two (.two .no (.two .no (.join (fun _ => z4c) .no (.reg [] [11, 0])))) .no)))) (z0h [.xs (fun _ => z4c)] (by kernel_rfl) ⟨(z2l zci), trivial⟩) (z0a z3j) zld z0w (fun s => by kernel_rfl)
def zkf : Shp := ⟨1, 1, [(0, .tu [])], [.var 71 (.ag [.wn 1 c1, .d c2, .d (.int .i64), .d c3, .d (.int .i64), .d .bool]), .row 86 c1]⟩
def zn1 : XS := .one .ret zkf.xe
theorem zvz : zn1.OK := XS.one_ok (z0a zkf)
def z5r (c : T1) (d : List T0) (d2 : Int) (d3 : T1) (d4 : Int) (d5 : Bool) (d6 : List (List Int)) : Option (((List T0) × Int × T1 × Int × Bool × (List (List Int)))) :=
 winK d6 0 (List.length d6) fun w =>
 (z5o (w, d, d2, d3, d4, d5)).bind fun r =>
 bif r then
 bif Nat.beq (List.length d6) (List.length d6) then
 some (d, d2, d3, d4, d5, d6)
 else none
 else
 z0j (List.length d) (
 bif Nat.beq (List.length d6) (List.length d6) then
 (loopC z0w (d, (List.length d : Nat), 0, d, d2, d3, d4, d5, c, d6)).bind fun o =>
 bif Nat.beq (List.length o.2.2.2.2.2) (List.length o.2.2.2.2.2) then
 some ([], (-1), o.2.2.1, o.2.2.2.1, true, o.2.2.2.2.2)
 else none
 else none)
def zf5 : Sig := ⟨17, [.pt 0 r0 [], .d c3], [.var 71 (.ag [.wn 1 c1, .d c2, .d (.int .i64), .d c3, .d (.int .i64), .d .bool]), .row 86 c1], 1, zn1⟩
def zdr (x : T1 × (List T0) × Int × T1 × Int × Bool × (List (List Int))) : Option (((List T0) × Int × T1 × Int × Bool × (List (List Int)))) := z5r x.1 x.2.1 x.2.2.1 x.2.2.2.1 x.2.2.2.2.1 x.2.2.2.2.2.1 x.2.2.2.2.2.2
theorem zlm : FnOK Try.prog zf5 zdr :=
 fn_ok zkx (h := (.two .no (.two .no (.two (.two .no (.over (loopD z3j.xe z3i (loopC z0w)))) .no)))) Try.func17 (z0h [.den (.loop (subC (bodyC Try.f17) [1, 1, 0, 1, 0, 0])) (loopD z3j.xe z3i (loopC z0w))] (by kernel_rfl) ⟨zlr, trivial⟩) (by kernel_rfl) zvz (fun x => by kernel_rfl)
def zvv : Env := ⟨[], [(entP zf5 zdr)], []⟩
theorem zse : EnvsOK Try.prog zvv := ⟨z0i _, z0k (z0r zlm) (z0g _), z0f _⟩
def zgr : Shp := ⟨1, 1, [(0, .d (.int .i64))], [.var 71 (.ag [.wn 1 c1, .d c2, .d (.int .i64), .d c3, .d (.int .i64), .d .bool]), .row 86 c1]⟩
def zim : XS := .one .ret zgr.xe
theorem zrr : zim.OK := XS.one_ok (z0a zgr)
def z5m (d : List T0) (d2 : Int) (d3 : T1) (d4 : Int) (d5 : Bool) (d6 : List (List Int)) : Option ((Int × (List T0) × Int × T1 × Int × Bool × (List (List Int)))) :=
 bif ltI d2 0 then
 bif Nat.beq (List.length d6) (List.length d6) then
 some (0, d, d2, d3, W64 (d4 + 1), d5, d6)
 else none
 else
 bif ltI (W64 (d2 - 1)) 0 then
 bif Nat.beq (List.length d6) (List.length d6) then
 (z5r d3 d (W64 (d2 - 1)) d3 (W64 (d4 + 1)) d5 d6).bind fun r =>
 bif Nat.beq (List.length r.2.2.2.2.2) (List.length r.2.2.2.2.2) then
 some (6, r.1, r.2.1, r.2.2.1, r.2.2.2.1, r.2.2.2.2.1, r.2.2.2.2.2)
 else none
 else none
 else
 bif Nat.beq (List.length d6) (List.length d6) then
 some (0, d, W64 (d2 - 1), d3, W64 (d4 + 1), d5, d6)
 else none
def z9j : Sig := ⟨72, [.pt 0 r0 []], [.var 71 (.ag [.wn 1 c1, .d c2, .d (.int .i64), .d c3, .d (.int .i64), .d .bool]), .row 86 c1], 1, zim⟩
def z8r (x : (List T0) × Int × T1 × Int × Bool × (List (List Int))) : Option ((Int × (List T0) × Int × T1 × Int × Bool × (List (List Int)))) := z5m x.1 x.2.1 x.2.2.1 x.2.2.2.1 x.2.2.2.2.1 x.2.2.2.2.2
theorem zbp : FnOK Try.prog z9j z8r :=
 fn_ok zse (h := .no) Try.func72 (z0h [] (by kernel_rfl) trivial) (by kernel_rfl) zrr (fun x => by kernel_rfl)
def zwz : Env := ⟨[(entQ zb8 zaa), (entQ zrw zpm)], [(entP z9j z8r)], []⟩
theorem zu8 : EnvsOK Try.prog zwz := ⟨z0c (z0e zdy) (z0c (z0e z10g) (z0i _)), z0k (z0r zbp) (z0g _), z0f _⟩
def zh2 : Shp := ⟨1, 1, [(0, .d (.int .i64))], [.var 71 (.ag [.wn 1 c1, .d c2, .d (.int .i64), .d c3, .d (.int .i64), .d .bool]), .row 86 c1]⟩
def zkj : XS := .one .ret zh2.xe
theorem zs8 : zkj.OK := XS.one_ok (z0a zh2)
def z8l (i : Int) (b : List Int) (d : List T0) (d2 : Int) (d3 : T1) (d4 : Int) (d5 : Bool) (d6 : List (List Int)) : Option ((Int × (List T0) × Int × T1 × Int × Bool × (List (List Int)))) :=
 winK d6 0 (List.length d6) fun w =>
 (z7r (w, d, d2, d3, d4, d5) i).bind fun r =>
 bif neI r 0 then
 bif Nat.beq (List.length d6) (List.length d6) then
 some (r, d, d2, d3, d4, d5, d6)
 else none
 else
 z0j (List.length b) (
 bif neI (List.length b : Nat) 256 then
 bif Nat.beq (List.length d6) (List.length d6) then
 some (1, d, d2, d3, d4, d5, d6)
 else none
 else
 bif Nat.ble 256 (List.length (List.replicate 256 (0 : Int))) then
 (zlo d).bind fun r2 =>
 appG (List.length r2) (List.length (([(i, cpyL (List.replicate 256 (0 : Int)) 0 256 b)] : List T0))) 264 fun _ =>
 bif Nat.beq (List.length d6) (List.length d6) then
 (z5m (r2 ++ (([(i, cpyL (List.replicate 256 (0 : Int)) 0 256 b)] : List T0))) d2 d3 d4 d5 d6).bind fun r3 =>
 bif Nat.beq (List.length r3.2.2.2.2.2.2) (List.length r3.2.2.2.2.2.2) then
 some (r3.1, r3.2.1, r3.2.2.1, r3.2.2.2.1, r3.2.2.2.2.1, r3.2.2.2.2.2.1, r3.2.2.2.2.2.2)
 else none
 else none
 else none)
def zcp : Sig := ⟨53, [.pt 0 r0 [], .d (.int .i64), .d (.sl (.int .u8))], [.var 71 (.ag [.wn 1 c1, .d c2, .d (.int .i64), .d c3, .d (.int .i64), .d .bool]), .row 86 c1], 1, zkj⟩
def zcf (x : Int × (List Int) × (List T0) × Int × T1 × Int × Bool × (List (List Int))) : Option ((Int × (List T0) × Int × T1 × Int × Bool × (List (List Int)))) := z8l x.1 x.2.1 x.2.2.1 x.2.2.2.1 x.2.2.2.2.1 x.2.2.2.2.2.1 x.2.2.2.2.2.2.1 x.2.2.2.2.2.2.2
theorem zj3 : FnOK Try.prog zcp zcf :=
 fn_ok zu8 (h := .no) Try.func53 (z0h [] (by kernel_rfl) trivial) (by kernel_rfl) zs8 (fun x => by kernel_rfl)
def ztc : Env := ⟨[(entQ zay za9)], [(entP z9j z8r)], []⟩
theorem zfg : EnvsOK Try.prog ztc := ⟨z0c (z0e zdq) (z0i _), z0k (z0r zbp) (z0g _), z0f _⟩
def z9o : Shp := ⟨35, 1, [(0, .pt 0 r0 [])], [.var 71 (.ag [.wn 1 c1, .d c2, .d (.int .i64), .d c3, .d (.int .i64), .d .bool]), .row 86 c1]⟩
def z1u : XS := .one (.exit 0) z9o.xe
theorem zfy : z1u.OK := XS.one_ok (z0a z9o)
def z1p : Shp := ⟨35, 1, [(0, .pt 0 r0 []), (16, .d c2), (17, .d (.int .i64)), (18, .d (.int .i64))], [.var 71 (.ag [.wn 1 c1, .d c2, .d (.int .i64), .d c3, .d (.int .i64), .d .bool]), .row 86 c1]⟩
abbrev z6d := (List T0) × Int × Int × (List T0) × Int × T1 × Int × Bool × (List (List Int))
abbrev za4 := ((List T0) × Int × T1 × Int × Bool × (List (List Int)))
def z1t (t16 : List T0) (t17 : Int) (t18 : Int) (d : List T0) (d2 : Int) (d3 : T1) (d4 : Int) (d5 : Bool) (d6 : List (List Int)) : Option (z6d ⊕ za4) :=
 bif ltI t18 t17 then
 (idxI t16 t18).bind fun x =>
 bif inI x.1 (List.length d6) then
 (d6[x.1.toNat]?).bind fun _x =>
 bif Nat.beq (List.length d6) (List.length (d6.set x.1.toNat x.2)) then
 some (.inl (t16, t17, W64 (t18 + 1), d, d2, d3, d4, d5, d6.set x.1.toNat x.2))
 else none
 else none
 else
 bif Nat.beq (List.length d6) (List.length d6) then
 some (.inr (d, d2, d3, d4, d5, d6))
 else none
def z0q (s : z6d) : Option (z6d ⊕ za4) := z1t s.1 s.2.1 s.2.2.1 s.2.2.2.1 s.2.2.2.2.1 s.2.2.2.2.2.1 s.2.2.2.2.2.2.1 s.2.2.2.2.2.2.2.1 s.2.2.2.2.2.2.2.2
theorem zg9 : SoundD Try.prog (.loop (subC (bodyC Try.f55) [1, 1, 1, 0, 1, 0, 0])) (loopD z1p.xe z1u (loopC z0q)) :=
 z2a (S := z1p.xe) (X := z1u) zfg (h := .no) (z0h [] (by kernel_rfl) trivial) (z0a z1p) zfy z0q (fun s => by kernel_rfl)
def zfh : Shp := ⟨1, 1, [(0, .d (.int .i64))], [.var 71 (.ag [.wn 1 c1, .d c2, .d (.int .i64), .d c3, .d (.int .i64), .d .bool]), .row 86 c1]⟩
def zhd : XS := .one .ret zfh.xe
theorem zpz : zhd.OK := XS.one_ok (z0a zfh)
def z4p (d : List T0) (d2 : Int) (d3 : T1) (d4 : Int) (d5 : Bool) (d6 : List (List Int)) : Option ((Int × (List T0) × Int × T1 × Int × Bool × (List (List Int)))) :=
 winK d6 0 (List.length d6) fun w =>
 (z5o (w, d, d2, d3, d4, d5)).bind fun r =>
 bif r then
 bif Nat.beq (List.length d6) (List.length d6) then
 some (6, d, d2, d3, d4, d5, d6)
 else none
 else
 bif Nat.beq (List.length d6) (List.length d6) then
 (z5m d d2 d3 d4 d5 d6).bind fun r2 =>
 bif neI r2.1 0 then
 bif Nat.beq (List.length r2.2.2.2.2.2.2) (List.length r2.2.2.2.2.2.2) then
 some (r2.1, r2.2.1, r2.2.2.1, r2.2.2.2.1, r2.2.2.2.2.1, r2.2.2.2.2.2.1, r2.2.2.2.2.2.2)
 else none
 else
 z0j (List.length r2.2.1) (
 bif Nat.beq (List.length r2.2.2.2.2.2.2) (List.length r2.2.2.2.2.2.2) then
 (loopC z0q (r2.2.1, (List.length r2.2.1 : Nat), 0, r2.2.1, r2.2.2.1, r2.2.2.2.1, r2.2.2.2.2.1, r2.2.2.2.2.2.1, r2.2.2.2.2.2.2)).bind fun o =>
 bif Nat.beq (List.length o.2.2.2.2.2) (List.length o.2.2.2.2.2) then
 some (0, [], o.2.1, o.2.2.1, o.2.2.2.1, o.2.2.2.2.1, o.2.2.2.2.2)
 else none
 else none)
 else none
def z8t : Sig := ⟨55, [.pt 0 r0 []], [.var 71 (.ag [.wn 1 c1, .d c2, .d (.int .i64), .d c3, .d (.int .i64), .d .bool]), .row 86 c1], 1, zhd⟩
def z8f (x : (List T0) × Int × T1 × Int × Bool × (List (List Int))) : Option ((Int × (List T0) × Int × T1 × Int × Bool × (List (List Int)))) := z4p x.1 x.2.1 x.2.2.1 x.2.2.2.1 x.2.2.2.2.1 x.2.2.2.2.2
theorem zbb : FnOK Try.prog z8t z8f :=
 fn_ok zfg (h := (.two .no (.two .no (.two .no (.two (.two .no (.over (loopD z1p.xe z1u (loopC z0q)))) .no))))) Try.func55 (z0h [.den (.loop (subC (bodyC Try.f55) [1, 1, 1, 0, 1, 0, 0])) (loopD z1p.xe z1u (loopC z0q))] (by kernel_rfl) ⟨zg9, trivial⟩) (by kernel_rfl) zpz (fun x => by kernel_rfl)
def zv1 : Env := ⟨[(entQ z3y z3b)], [(entP zcp zcf), (entP z8t z8f)], []⟩
theorem zs1 : EnvsOK Try.prog zv1 := ⟨z0c (z0e z5i) (z0i _), z0k (z0r zj3) (z0k (z0r zbb) (z0g _)), z0f _⟩
def zeg : Shp := ⟨34, 2, [(0, .pt 0 r6 []), (3, .pt 2 r7 []), (5, .d (.int .i64))], [.var 75 (.ag [.pt 1 r0 [], .d c4, .wn 3 (.int .u8), .d (.int .i64), .d .bool]), .var 71 (.ag [.wn 4 c1, .d c2, .d (.int .i64), .d c3, .d (.int .i64), .d .bool]), .var 73 (.d c4), .row 5 (.int .u8), .row 86 c1]⟩
def zal : XS := .one .normal zeg.xe
theorem zos : zal.OK := XS.one_ok (z0a zeg)
def zgp : Shp := ⟨1, 2, [(0, .d (.int .i64))], [.var 75 (.ag [.pt 1 r0 [], .d c4, .d (.sl (.int .u8)), .d (.int .i64), .d .bool]), .var 71 (.ag [.wn 2 c1, .d c2, .d (.int .i64), .d c3, .d (.int .i64), .d .bool]), .row 86 c1]⟩
def zi9 : XS := .one .ret zgp.xe
theorem zrd : zi9.OK := XS.one_ok (z0a zgp)
def zac (t : T2) (j : T2) (j2 : Int) (j3 : Bool) (j4 : List T0) (j5 : Int) (j6 : T1) (j7 : Int) (j8 : Bool) (j9 : List Int) (j10 : List (List Int)) : Option ((Int × T2 × (List Int) × Int × Bool × (List T0) × Int × T1 × Int × Bool × (List (List Int)))) :=
 (z1o t).bind fun r =>
 bif Nat.beq (List.length j10) (List.length j10) then
 (z8l (W64 (Int.tmod t.1 2)) r j4 j5 j6 j7 j8 j10).bind fun r2 =>
 (show Option ((Int × T2 × Int × Bool × (List T0) × Int × T1 × Int × Bool × T2 × (List Int) × (List (List Int)))) from
 bif eqI r2.1 0 then
 bif Nat.beq (List.length r2.2.2.2.2.2.2) (List.length r2.2.2.2.2.2.2) then
 (z4p r2.2.1 r2.2.2.1 r2.2.2.2.1 r2.2.2.2.2.1 r2.2.2.2.2.2.1 r2.2.2.2.2.2.2).bind fun r3 =>
 bif Nat.beq (List.length j9) (List.length j9) then
 bif Nat.beq (List.length r3.2.2.2.2.2.2) (List.length r3.2.2.2.2.2.2) then
 some (r3.1, j, j2, j3, r3.2.1, r3.2.2.1, r3.2.2.2.1, r3.2.2.2.2.1, r3.2.2.2.2.2.1, t, j9, r3.2.2.2.2.2.2)
 else none
 else none
 else none
 else
 bif Nat.beq (List.length j9) (List.length j9) then
 bif Nat.beq (List.length r2.2.2.2.2.2.2) (List.length r2.2.2.2.2.2.2) then
 some (r2.1, j, j2, j3, r2.2.1, r2.2.2.1, r2.2.2.2.1, r2.2.2.2.2.1, r2.2.2.2.2.2.1, t, j9, r2.2.2.2.2.2.2)
 else none
 else none).bind fun j11 =>
 bif neI j11.1 0 then
 winK j11.2.2.2.2.2.2.2.2.2.2.1 0 (List.length j11.2.2.2.2.2.2.2.2.2.2.1) fun w =>
 bif Nat.beq (List.length j11.2.2.2.2.2.2.2.2.2.2.2) (List.length j11.2.2.2.2.2.2.2.2.2.2.2) then
 some (j11.1, j11.2.1, w, j11.2.2.1, true, j11.2.2.2.2.1, j11.2.2.2.2.2.1, j11.2.2.2.2.2.2.1, j11.2.2.2.2.2.2.2.1, j11.2.2.2.2.2.2.2.2.1, j11.2.2.2.2.2.2.2.2.2.2.2)
 else none
 else
 winK j11.2.2.2.2.2.2.2.2.2.2.1 0 (List.length j11.2.2.2.2.2.2.2.2.2.2.1) fun w2 =>
 bif Nat.beq (List.length j11.2.2.2.2.2.2.2.2.2.2.2) (List.length j11.2.2.2.2.2.2.2.2.2.2.2) then
 some (0, j11.2.2.2.2.2.2.2.2.2.1, w2, j11.2.2.1, j11.2.2.2.1, j11.2.2.2.2.1, j11.2.2.2.2.2.1, j11.2.2.2.2.2.2.1, j11.2.2.2.2.2.2.2.1, j11.2.2.2.2.2.2.2.2.1, j11.2.2.2.2.2.2.2.2.2.2.2)
 else none
 else none
def zii : Sig := ⟨33, [.pt 0 r6 [], .d c4], [.var 75 (.ag [.pt 1 r0 [], .d c4, .wn 2 (.int .u8), .d (.int .i64), .d .bool]), .var 71 (.ag [.wn 3 c1, .d c2, .d (.int .i64), .d c3, .d (.int .i64), .d .bool]), .row 5 (.int .u8), .row 86 c1], 2, zi9⟩
def zh3 (x : T2 × T2 × Int × Bool × (List T0) × Int × T1 × Int × Bool × (List Int) × (List (List Int))) : Option ((Int × T2 × (List Int) × Int × Bool × (List T0) × Int × T1 × Int × Bool × (List (List Int)))) := zac x.1 x.2.1 x.2.2.1 x.2.2.2.1 x.2.2.2.2.1 x.2.2.2.2.2.1 x.2.2.2.2.2.2.1 x.2.2.2.2.2.2.2.1 x.2.2.2.2.2.2.2.2.1 x.2.2.2.2.2.2.2.2.2.1 x.2.2.2.2.2.2.2.2.2.2
theorem zu0 : FnOK Try.prog zii zh3 :=
 fn_ok zs1 (h := (.two .no (.two (.reg [] [10, 0, 1]) (.join (fun _ => zal) .no .no)))) Try.func33 (z0h [.xs (fun _ => zal)] (by kernel_rfl) ⟨(z2l zos), trivial⟩) (by kernel_rfl) zrd (fun x => by kernel_rfl)
def zy4 : Env := ⟨[(entQ z5q z4v)], [], []⟩
theorem zw7 : EnvsOK Try.prog zy4 := ⟨z0c (z0e z6u) (z0i _), z0g _, z0f _⟩
def zio : Shp := ⟨1, 0, [(0, .d (.int .i64))], []⟩
def zls : XS := .one .ret zio.xe
theorem zto : zls.OK := XS.one_ok (z0a zio)
def z9k (j : T3) (j2 : T2) (j3 : List Int) (j4 : Int) (j5 : Bool) (side : Int) (i : Int) : Option ((Int)) :=
 (z4g j).bind fun r =>
 some (W64 ((W64 (2 + (W64 (side * r)))) + i))
def zdu : Sig := ⟨34, [.rf (.ag [.rf (.d c8), .d c4, .d (.sl (.int .u8)), .d (.int .i64), .d .bool]), .d (.int .i64), .d (.int .i64)], [], 0, zls⟩
def zcs (x : T3 × T2 × (List Int) × Int × Bool × Int × Int) : Option ((Int)) := z9k x.1 x.2.1 x.2.2.1 x.2.2.2.1 x.2.2.2.2.1 x.2.2.2.2.2.1 x.2.2.2.2.2.2
theorem zki : FnOK Try.prog zdu zcs :=
 fn_ok zw7 (h := .no) Try.func34 (z0h [] (by kernel_rfl) trivial) (by kernel_rfl) zto (fun x => by kernel_rfl)
def z18b : Env := ⟨[(entQ ze5 zcu), (entQ z5q z4v), (entQ zog zmg), (entQ zdu zcs)], [(entP zli zk9), (entP zii zh3), (entP zmb zl7)], []⟩
theorem zi2 : EnvsOK Try.prog z18b := ⟨z0c (z0e zkh) (z0c (z0e z6u) (z0c (z0e zuo) (z0c (z0e zki) (z0i _)))), z0k (z0r zwu) (z0k (z0r zu0) (z0k (z0r zt3) (z0g _))), z0f _⟩
def zc8 : Shp := ⟨138, 1, [(0, .pt 0 r0 []), (5, .pt 1 r6 [])], [.var 71 (.ag [.wn 2 c1, .d c2, .d (.int .i64), .d c3, .d (.int .i64), .d .bool]), .var 75 (.ag [.pt 0 r0 [], .d c4, .wn 3 (.int .u8), .d (.int .i64), .d .bool]), .row 86 c1, .row 5 (.int .u8)]⟩
def zca : Shp := ⟨138, 1, [(2, .c .nilp), (3, .d c5), (4, .d (.int .i64))], [.var 71 (.ag [.wn 1 c1, .d c2, .d (.int .i64), .d c3, .d (.int .i64), .d .bool]), .row 86 c1]⟩
def z3w : XS := .or (.exit 0) zc8.xe (.one .ret zca.xe)
theorem zm4 : z3w.OK := XS.or_ok (z0a zc8) (XS.one_ok (z0a zca))
def z3s : Shp := ⟨138, 1, [(0, .pt 0 r0 []), (5, .pt 1 r6 []), (6, .d (.int .i64)), (26, .d (.int .i64))], [.var 71 (.ag [.wn 2 c1, .d c2, .d (.int .i64), .d c3, .d (.int .i64), .d .bool]), .var 75 (.ag [.pt 0 r0 [], .d c4, .wn 3 (.int .u8), .d (.int .i64), .d .bool]), .row 86 c1, .row 5 (.int .u8)]⟩
abbrev z9f := Int × Int × (List T0) × Int × T1 × Int × Bool × T2 × Int × Bool × (List (List Int)) × (List Int)
abbrev zde := ((List T0) × Int × T1 × Int × Bool × T2 × Int × Bool × (List (List Int)) × (List Int)) ⊕ ((List (List Int)) × Int × (List T0) × Int × T1 × Int × Bool × (List (List Int)))
def z1g (room : Int) (t26 : Int) (d : List T0) (d2 : Int) (d3 : T1) (d4 : Int) (d5 : Bool) (j : T2) (j2 : Int) (j3 : Bool) (d6 : List (List Int)) (j4 : List Int) : Option (z9f ⊕ zde) :=
 bif ltI t26 2 then
 bif Nat.beq (List.length d6) (List.length d6) then
 (z4t t26 d d2 d3 d4 d5 d6).bind fun r =>
 bif neI r.1 0 then
 bif Nat.beq (List.length r.2.2.2.2.2.2.2) (List.length r.2.2.2.2.2.2.2) then
 some (.inr (.inr ([], r.1, r.2.1, r.2.2.1, r.2.2.2.1, r.2.2.2.2.1, r.2.2.2.2.2.1, r.2.2.2.2.2.2.2)))
 else none
 else
 winK r.2.2.2.2.2.2.1 0 (List.length r.2.2.2.2.2.2.1) fun w =>
 (zgm w room).bind fun r2 =>
 bif ltI j.1 r2.1 then
 bif Nat.beq (List.length r.2.2.2.2.2.2.2) (List.length r.2.2.2.2.2.2.2) then
 bif Nat.beq (List.length j4) (List.length j4) then
 some (.inl (room, W64 (t26 + 1), r.2.1, r.2.2.1, r.2.2.2.1, r.2.2.2.2.1, r.2.2.2.2.2.1, r2, j2, j3, r.2.2.2.2.2.2.2, j4))
 else none
 else none
 else
 bif Nat.beq (List.length r.2.2.2.2.2.2.2) (List.length r.2.2.2.2.2.2.2) then
 bif Nat.beq (List.length j4) (List.length j4) then
 some (.inl (room, W64 (t26 + 1), r.2.1, r.2.2.1, r.2.2.2.1, r.2.2.2.2.1, r.2.2.2.2.2.1, j, j2, j3, r.2.2.2.2.2.2.2, j4))
 else none
 else none
 else none
 else
 bif Nat.beq (List.length d6) (List.length d6) then
 bif Nat.beq (List.length j4) (List.length j4) then
 some (.inr (.inl (d, d2, d3, d4, d5, j, j2, j3, d6, j4)))
 else none
 else none
def z0z (s : z9f) : Option (z9f ⊕ zde) := z1g s.1 s.2.1 s.2.2.1 s.2.2.2.1 s.2.2.2.2.1 s.2.2.2.2.2.1 s.2.2.2.2.2.2.1 s.2.2.2.2.2.2.2.1 s.2.2.2.2.2.2.2.2.1 s.2.2.2.2.2.2.2.2.2.1 s.2.2.2.2.2.2.2.2.2.2.1 s.2.2.2.2.2.2.2.2.2.2.2
theorem zmk : SoundD Try.prog (.loop (subC (bodyC Try.f10) [1, 1, 1, 1, 0, 1, 0, 0])) (loopD z3s.xe z3w (loopC z0z)) :=
 z2a (S := z3s.xe) (X := z3w) zi2 (h := .no) (z0h [] (by kernel_rfl) trivial) (z0a z3s) zm4 z0z (fun s => by kernel_rfl)
def zak : Shp := ⟨138, 1, [(5, .pt 1 r6 [])], [.var 71 (.ag [.wn 2 c1, .d c2, .d (.int .i64), .d c3, .d (.int .i64), .d .bool]), .var 75 (.ag [.pt 0 r0 [], .d c4, .wn 3 (.int .u8), .d (.int .i64), .d .bool]), .row 86 c1, .row 5 (.int .u8)]⟩
def zah : Shp := ⟨138, 1, [(2, .c .nilp), (3, .d c5), (4, .d (.int .i64))], [.var 71 (.ag [.wn 1 c1, .d c2, .d (.int .i64), .d c3, .d (.int .i64), .d .bool]), .row 86 c1]⟩
def z2h : XS := .or (.exit 2) zak.xe (.one .ret zah.xe)
theorem zhw : z2h.OK := XS.or_ok (z0a zak) (XS.one_ok (z0a zah))
def z2e : Shp := ⟨138, 1, [(0, .pt 0 r0 []), (5, .pt 1 r6 []), (12, .d (.int .i64))], [.var 71 (.ag [.wn 2 c1, .d c2, .d (.int .i64), .d c3, .d (.int .i64), .d .bool]), .var 75 (.ag [.pt 0 r0 [], .d c4, .wn 3 (.int .u8), .d (.int .i64), .d .bool]), .row 86 c1, .row 5 (.int .u8)]⟩
abbrev z7j := Int × (List T0) × Int × T1 × Int × Bool × T2 × Int × Bool × (List (List Int)) × (List Int)
abbrev zbi := ((List T0) × Int × T1 × Int × Bool × T2 × Int × Bool × (List (List Int)) × (List Int)) ⊕ ((List (List Int)) × Int × (List T0) × Int × T1 × Int × Bool × (List (List Int)))
def z2j (i : Int) (d : List T0) (d2 : Int) (d3 : T1) (d4 : Int) (d5 : Bool) (j : T2) (j2 : Int) (j3 : Bool) (d6 : List (List Int)) (j4 : List Int) : Option (z7j ⊕ zbi) :=
 bif ltI (W64 (i * 256)) j.2.2 then
 winK d6 0 (List.length d6) fun w =>
 winK j4 0 (List.length j4) fun w2 =>
 (z9k (w, d, d2, d3, d4, d5) j w2 j2 j3 j.2.1 i).bind fun r =>
 bif Nat.beq (List.length d6) (List.length d6) then
 (z4t r d d2 d3 d4 d5 d6).bind fun r2 =>
 bif neI r2.1 0 then
 bif Nat.beq (List.length r2.2.2.2.2.2.2.2) (List.length r2.2.2.2.2.2.2.2) then
 some (.inr (.inr ([], r2.1, r2.2.1, r2.2.2.1, r2.2.2.2.1, r2.2.2.2.2.1, r2.2.2.2.2.2.1, r2.2.2.2.2.2.2.2)))
 else none
 else
 bif Nat.beq (List.length j4) (List.length j4) then
 winK r2.2.2.2.2.2.2.1 0 (List.length r2.2.2.2.2.2.2.1) fun w3 =>
 appG (List.length j4) (List.length w3) 1 fun _ =>
 bif Nat.beq (List.length r2.2.2.2.2.2.2.2) (List.length r2.2.2.2.2.2.2.2) then
 bif Nat.beq (List.length (j4 ++ w3)) (List.length (j4 ++ w3)) then
 some (.inl (W64 (i + 1), r2.2.1, r2.2.2.1, r2.2.2.2.1, r2.2.2.2.2.1, r2.2.2.2.2.2.1, j, j2, j3, r2.2.2.2.2.2.2.2, j4 ++ w3))
 else none
 else none
 else none
 else none
 else
 bif Nat.beq (List.length d6) (List.length d6) then
 bif Nat.beq (List.length j4) (List.length j4) then
 some (.inr (.inl (d, d2, d3, d4, d5, j, j2, j3, d6, j4)))
 else none
 else none
def z1i (s : z7j) : Option (z7j ⊕ zbi) := z2j s.1 s.2.1 s.2.2.1 s.2.2.2.1 s.2.2.2.2.1 s.2.2.2.2.2.1 s.2.2.2.2.2.2.1 s.2.2.2.2.2.2.2.1 s.2.2.2.2.2.2.2.2.1 s.2.2.2.2.2.2.2.2.2.1 s.2.2.2.2.2.2.2.2.2.2
theorem zju : SoundD Try.prog (.loop (subC (bodyC Try.f10) [1, 1, 1, 1, 1, 1, 0, 1, 0, 0])) (loopD z2e.xe z2h (loopC z1i)) :=
 z2a (S := z2e.xe) (X := z2h) zi2 (h := .no) (z0h [] (by kernel_rfl) trivial) (z0a z2e) zhw z1i (fun s => by kernel_rfl)
def zrv : Shp := ⟨1, 1, [(0, .tu [.c .nilp, .d c5, .d (.int .i64)])], [.var 71 (.ag [.wn 1 c1, .d c2, .d (.int .i64), .d c3, .d (.int .i64), .d .bool]), .row 86 c1]⟩
def zqx : Shp := ⟨1, 1, [(0, .tu [.pt 1 r6 [], .wn 2 (.sl (.int .u8)), .d (.int .i64)])], [.var 71 (.ag [.wn 3 c1, .d c2, .d (.int .i64), .d c3, .d (.int .i64), .d .bool]), .var 75 (.ag [.pt 0 r0 [], .d c4, .d (.sl (.int .u8)), .d (.int .i64), .d .bool]), .row 34 (.sl (.int .u8)), .row 86 c1]⟩
def zuz : XS := .or .ret zrv.xe (.one .ret zqx.xe)
theorem z13c : zuz.OK := XS.or_ok (z0a zrv) (XS.one_ok (z0a zqx))
def z1h (d : List T0) (d2 : Int) (d3 : T1) (d4 : Int) (d5 : Bool) (d6 : List (List Int)) : Option (((List (List Int)) × Int × (List T0) × Int × T1 × Int × Bool × (List (List Int))) ⊕ (Int × (List T0) × Int × T1 × Int × Bool × T2 × (List Int) × Int × Bool × (List (List Int)) × (List (List Int)))) :=
 winK d6 0 (List.length d6) fun w =>
 (z3v (w, d, d2, d3, d4, d5)).bind fun r =>
 bif ltI r 6 then
 bif Nat.beq (List.length d6) (List.length d6) then
 some (.inl ([], 1, d, d2, d3, d4, d5, d6))
 else none
 else
 winK d6 0 (List.length d6) fun w2 =>
 (z4g (w2, d, d2, d3, d4, d5)).bind fun r2 =>
 bif Nat.beq (List.length d6) (List.length d6) then
 bif Nat.beq 0 (List.length ([] : List Int)) then
 (loopC z0z (W64 (r2 * 256), 0, d, d2, d3, d4, d5, (0, 0, 0), 0, false, d6, ([] : List Int))).bind fun o =>
 Sum.elim (fun y =>
 bif eqI y.2.2.2.2.2.1.1 0 then
 bif Nat.beq (List.length y.2.2.2.2.2.2.2.2.2) (List.length y.2.2.2.2.2.2.2.2.2) then
 bif Nat.beq (List.length y.2.2.2.2.2.2.2.2.1) (List.length y.2.2.2.2.2.2.2.2.1) then
 (zac (1, 0, 0) y.2.2.2.2.2.1 y.2.2.2.2.2.2.1 y.2.2.2.2.2.2.2.1 y.1 y.2.1 y.2.2.1 y.2.2.2.1 y.2.2.2.2.1 y.2.2.2.2.2.2.2.2.2 y.2.2.2.2.2.2.2.2.1).bind fun r3 =>
 bif neI r3.1 0 then
 bif Nat.beq (List.length r3.2.2.2.2.2.2.2.2.2.2) (List.length r3.2.2.2.2.2.2.2.2.2.2) then
 some (.inl ([], r3.1, r3.2.2.2.2.2.1, r3.2.2.2.2.2.2.1, r3.2.2.2.2.2.2.2.1, r3.2.2.2.2.2.2.2.2.1, r3.2.2.2.2.2.2.2.2.2.1, r3.2.2.2.2.2.2.2.2.2.2))
 else none
 else
 bif Nat.beq 0 (List.length ([] : List (List Int))) then
 bif Nat.beq (List.length r3.2.2.2.2.2.2.2.2.2.2) (List.length r3.2.2.2.2.2.2.2.2.2.2) then
 some (.inr (0, r3.2.2.2.2.2.1, r3.2.2.2.2.2.2.1, r3.2.2.2.2.2.2.2.1, r3.2.2.2.2.2.2.2.2.1, r3.2.2.2.2.2.2.2.2.2.1, r3.2.1, r3.2.2.1, r3.2.2.2.1, r3.2.2.2.2.1, ([] : List (List Int)), r3.2.2.2.2.2.2.2.2.2.2))
 else none
 else none
 else none
 else none
 else
 bif Nat.beq (List.length y.2.2.2.2.2.2.2.2.1) (List.length y.2.2.2.2.2.2.2.2.1) then
 bif Nat.beq (List.length y.2.2.2.2.2.2.2.2.2) (List.length y.2.2.2.2.2.2.2.2.2) then
 (loopC z1i (0, y.1, y.2.1, y.2.2.1, y.2.2.2.1, y.2.2.2.2.1, y.2.2.2.2.2.1, y.2.2.2.2.2.2.1, y.2.2.2.2.2.2.2.1, y.2.2.2.2.2.2.2.2.1, y.2.2.2.2.2.2.2.2.2)).bind fun o2 =>
 Sum.elim (fun y3 =>
 bif subOk 0 y3.2.2.2.2.2.1.2.2 (List.length y3.2.2.2.2.2.2.2.2.2) && eqI y3.2.2.2.2.2.1.2.2 y3.2.2.2.2.2.1.2.2 then
 (zf0 (List.replicate y3.2.2.2.2.2.1.2.2.toNat true) y3.2.2.2.2.2.2.2.2.2).bind fun r4 =>
 bif neI r4.1 0 then
 bif Nat.beq (List.length y3.2.2.2.2.2.2.2.2.1) (List.length y3.2.2.2.2.2.2.2.2.1) then
 some (.inl ([], r4.1, y3.1, y3.2.1, y3.2.2.1, y3.2.2.2.1, y3.2.2.2.2.1, y3.2.2.2.2.2.2.2.2.1))
 else none
 else
 z0j (List.length r4.2.2) (
 winK r4.2.1 0 y3.2.2.2.2.2.1.2.2.toNat fun w3 =>
 bif Nat.beq (List.length r4.2.2) (List.length r4.2.2) then
 bif Nat.beq (List.length y3.2.2.2.2.2.2.2.2.1) (List.length y3.2.2.2.2.2.2.2.2.1) then
 some (.inr (0, y3.1, y3.2.1, y3.2.2.1, y3.2.2.2.1, y3.2.2.2.2.1, y3.2.2.2.2.2.1, w3, (List.length r4.2.2 : Nat), y3.2.2.2.2.2.2.2.1, r4.2.2, y3.2.2.2.2.2.2.2.2.1))
 else none
 else none)
 else none) (fun y4 =>
 bif Nat.beq (List.length y4.2.2.2.2.2.2.2) (List.length y4.2.2.2.2.2.2.2) then
 some (.inl (y4.1, y4.2.1, y4.2.2.1, y4.2.2.2.1, y4.2.2.2.2.1, y4.2.2.2.2.2.1, y4.2.2.2.2.2.2.1, y4.2.2.2.2.2.2.2))
 else none) o2
 else none
 else none) (fun y2 =>
 bif Nat.beq (List.length y2.2.2.2.2.2.2.2) (List.length y2.2.2.2.2.2.2.2) then
 some (.inl (y2.1, y2.2.1, y2.2.2.1, y2.2.2.2.1, y2.2.2.2.2.1, y2.2.2.2.2.2.1, y2.2.2.2.2.2.2.1, y2.2.2.2.2.2.2.2))
 else none) o
 else none
 else none
def zmm : Sig := ⟨10, [.pt 0 r0 []], [.var 71 (.ag [.wn 1 c1, .d c2, .d (.int .i64), .d c3, .d (.int .i64), .d .bool]), .row 86 c1], 1, zuz⟩
def zl9 (x : (List T0) × Int × T1 × Int × Bool × (List (List Int))) : Option (((List (List Int)) × Int × (List T0) × Int × T1 × Int × Bool × (List (List Int))) ⊕ (Int × (List T0) × Int × T1 × Int × Bool × T2 × (List Int) × Int × Bool × (List (List Int)) × (List (List Int)))) := z1h x.1 x.2.1 x.2.2.1 x.2.2.2.1 x.2.2.2.2.1 x.2.2.2.2.2
theorem zsu : FnOK Try.prog zmm zl9 :=
 fn_ok zi2 (h := (.two .no (.two .no (.two .no (.two .no (.two (.two .no (.over (loopD z3s.xe z3w (loopC z0z)))) (.two .no (.two (.two .no (.over (loopD z2e.xe z2h (loopC z1i)))) .no)))))))) Try.func10 (z0h [.den (.loop (subC (bodyC Try.f10) [1, 1, 1, 1, 0, 1, 0, 0])) (loopD z3s.xe z3w (loopC z0z)), .den (.loop (subC (bodyC Try.f10) [1, 1, 1, 1, 1, 1, 0, 1, 0, 0])) (loopD z2e.xe z2h (loopC z1i))] (by kernel_rfl) ⟨zmk, zju, trivial⟩) (by kernel_rfl) z13c (fun x => by kernel_rfl)
def zry : Env := ⟨[], [], []⟩
theorem zpp : EnvsOK Try.prog zry := ⟨z0i _, z0g _, z0f _⟩
def zf8 : Shp := ⟨1, 0, [(0, .d .bool)], []⟩
def zgk : XS := .one .ret zf8.xe
theorem zp1 : zgk.OK := XS.one_ok (z0a zf8)
def z2w (j : T3) (j2 : T2) (j3 : List Int) (j4 : Int) (j5 : Bool) : Option ((Bool)) :=
 some j5
def z8b : Sig := ⟨15, [.rf (.ag [.rf (.d c8), .d c4, .d (.sl (.int .u8)), .d (.int .i64), .d .bool])], [], 0, zgk⟩
def z7l (x : T3 × T2 × (List Int) × Int × Bool) : Option ((Bool)) := z2w x.1 x.2.1 x.2.2.1 x.2.2.2.1 x.2.2.2.2
theorem zao : FnOK Try.prog z8b z7l :=
 fn_ok zpp (h := .no) Try.func15 (z0h [] (by kernel_rfl) trivial) (by kernel_rfl) zp1 (fun x => by kernel_rfl)
def zws : Env := ⟨[(entQ zb8 zaa), (entQ zrw zpm)], [(entP z9j z8r)], []⟩
theorem zts : EnvsOK Try.prog zws := ⟨z0c (z0e zdy) (z0c (z0e z10g) (z0i _)), z0k (z0r zbp) (z0g _), z0f _⟩
def zhl : Shp := ⟨1, 2, [(0, .d (.int .i64))], [.var 71 (.ag [.wn 2 c1, .d c2, .d (.int .i64), .d c3, .d (.int .i64), .d .bool]), .row 5 (.int .u8), .row 86 c1]⟩
def zka : XS := .one .ret zhl.xe
theorem zsk : zka.OK := XS.one_ok (z0a zhl)
def z8n (i : Int) (d : List T0) (d2 : Int) (d3 : T1) (d4 : Int) (d5 : Bool) (b : List Int) (d6 : List (List Int)) : Option ((Int × (List T0) × Int × T1 × Int × Bool × (List Int) × (List (List Int)))) :=
 winK d6 0 (List.length d6) fun w =>
 (z7r (w, d, d2, d3, d4, d5) i).bind fun r =>
 bif neI r 0 then
 bif Nat.beq (List.length d6) (List.length d6) then
 some (r, d, d2, d3, d4, d5, b, d6)
 else none
 else
 z0j (List.length b) (
 bif neI (List.length b : Nat) 256 then
 bif Nat.beq (List.length d6) (List.length d6) then
 some (1, d, d2, d3, d4, d5, b, d6)
 else none
 else
 winK b 0 (List.length b) fun w2 =>
 bif Nat.ble 256 (List.length (List.replicate 256 (0 : Int))) then
 (zlo d).bind fun r2 =>
 appG (List.length r2) (List.length (([(i, cpyL (List.replicate 256 (0 : Int)) 0 256 w2)] : List T0))) 264 fun _ =>
 bif Nat.beq (List.length d6) (List.length d6) then
 (z5m (r2 ++ (([(i, cpyL (List.replicate 256 (0 : Int)) 0 256 w2)] : List T0))) d2 d3 d4 d5 d6).bind fun r3 =>
 bif Nat.beq (List.length r3.2.2.2.2.2.2) (List.length r3.2.2.2.2.2.2) then
 some (r3.1, r3.2.1, r3.2.2.1, r3.2.2.2.1, r3.2.2.2.2.1, r3.2.2.2.2.2.1, b, r3.2.2.2.2.2.2)
 else none
 else none
 else none)
def zkl : Sig := ⟨53, [.pt 0 r0 [], .d (.int .i64), .wn 1 (.int .u8)], [.var 71 (.ag [.wn 2 c1, .d c2, .d (.int .i64), .d c3, .d (.int .i64), .d .bool]), .row 5 (.int .u8), .row 86 c1], 2, zka⟩
def zi4 (x : Int × (List T0) × Int × T1 × Int × Bool × (List Int) × (List (List Int))) : Option ((Int × (List T0) × Int × T1 × Int × Bool × (List Int) × (List (List Int)))) := z8n x.1 x.2.1 x.2.2.1 x.2.2.2.1 x.2.2.2.2.1 x.2.2.2.2.2.1 x.2.2.2.2.2.2.1 x.2.2.2.2.2.2.2
theorem zw3 : FnOK Try.prog zkl zi4 :=
 fn_ok zts (h := .no) Try.func53 (z0h [] (by kernel_rfl) trivial) (by kernel_rfl) zsk (fun x => by kernel_rfl)
def zv2 : Env := ⟨[(entQ z3y z3b)], [(entP zcp zcf), (entP z8t z8f)], []⟩
theorem zs4 : EnvsOK Try.prog zv2 := ⟨z0c (z0e z5i) (z0i _), z0k (z0r zj3) (z0k (z0r zbb) (z0g _)), z0f _⟩
def ze8 : Shp := ⟨34, 2, [(0, .pt 0 r6 []), (3, .pt 2 r7 []), (5, .d (.int .i64))], [.var 75 (.ag [.pt 1 r0 [], .d c4, .d (.sl (.int .u8)), .d (.int .i64), .d .bool]), .var 71 (.ag [.wn 3 c1, .d c2, .d (.int .i64), .d c3, .d (.int .i64), .d .bool]), .var 73 (.d c4), .row 86 c1]⟩
def zad : XS := .one .normal ze8.xe
theorem zo2 : zad.OK := XS.one_ok (z0a ze8)
def zgi : Shp := ⟨1, 2, [(0, .d (.int .i64))], [.var 75 (.ag [.pt 1 r0 [], .d c4, .d (.sl (.int .u8)), .d (.int .i64), .d .bool]), .var 71 (.ag [.wn 2 c1, .d c2, .d (.int .i64), .d c3, .d (.int .i64), .d .bool]), .row 86 c1]⟩
def zj7 : XS := .one .ret zgi.xe
theorem zqr : zj7.OK := XS.one_ok (z0a zgi)
def zab (t : T2) (j : T2) (j2 : List Int) (j3 : Int) (j4 : Bool) (j5 : List T0) (j6 : Int) (j7 : T1) (j8 : Int) (j9 : Bool) (j10 : List (List Int)) : Option ((Int × T2 × (List Int) × Int × Bool × (List T0) × Int × T1 × Int × Bool × (List (List Int)))) :=
 (z1o t).bind fun r =>
 bif Nat.beq (List.length j10) (List.length j10) then
 (z8l (W64 (Int.tmod t.1 2)) r j5 j6 j7 j8 j9 j10).bind fun r2 =>
 (show Option ((Int × T2 × (List Int) × Int × Bool × (List T0) × Int × T1 × Int × Bool × T2 × (List (List Int)))) from
 bif eqI r2.1 0 then
 bif Nat.beq (List.length r2.2.2.2.2.2.2) (List.length r2.2.2.2.2.2.2) then
 (z4p r2.2.1 r2.2.2.1 r2.2.2.2.1 r2.2.2.2.2.1 r2.2.2.2.2.2.1 r2.2.2.2.2.2.2).bind fun r3 =>
 bif Nat.beq (List.length r3.2.2.2.2.2.2) (List.length r3.2.2.2.2.2.2) then
 some (r3.1, j, j2, j3, j4, r3.2.1, r3.2.2.1, r3.2.2.2.1, r3.2.2.2.2.1, r3.2.2.2.2.2.1, t, r3.2.2.2.2.2.2)
 else none
 else none
 else
 bif Nat.beq (List.length r2.2.2.2.2.2.2) (List.length r2.2.2.2.2.2.2) then
 some (r2.1, j, j2, j3, j4, r2.2.1, r2.2.2.1, r2.2.2.2.1, r2.2.2.2.2.1, r2.2.2.2.2.2.1, t, r2.2.2.2.2.2.2)
 else none).bind fun j11 =>
 bif neI j11.1 0 then
 bif Nat.beq (List.length j11.2.2.2.2.2.2.2.2.2.2.2) (List.length j11.2.2.2.2.2.2.2.2.2.2.2) then
 some (j11.1, j11.2.1, j11.2.2.1, j11.2.2.2.1, true, j11.2.2.2.2.2.1, j11.2.2.2.2.2.2.1, j11.2.2.2.2.2.2.2.1, j11.2.2.2.2.2.2.2.2.1, j11.2.2.2.2.2.2.2.2.2.1, j11.2.2.2.2.2.2.2.2.2.2.2)
 else none
 else
 bif Nat.beq (List.length j11.2.2.2.2.2.2.2.2.2.2.2) (List.length j11.2.2.2.2.2.2.2.2.2.2.2) then
 some (0, j11.2.2.2.2.2.2.2.2.2.2.1, j11.2.2.1, j11.2.2.2.1, j11.2.2.2.2.1, j11.2.2.2.2.2.1, j11.2.2.2.2.2.2.1, j11.2.2.2.2.2.2.2.1, j11.2.2.2.2.2.2.2.2.1, j11.2.2.2.2.2.2.2.2.2.1, j11.2.2.2.2.2.2.2.2.2.2.2)
 else none
 else none
def zix : Sig := ⟨33, [.pt 0 r6 [], .d c4], [.var 75 (.ag [.pt 1 r0 [], .d c4, .d (.sl (.int .u8)), .d (.int .i64), .d .bool]), .var 71 (.ag [.wn 2 c1, .d c2, .d (.int .i64), .d c3, .d (.int .i64), .d .bool]), .row 86 c1], 2, zj7⟩
def zhv (x : T2 × T2 × (List Int) × Int × Bool × (List T0) × Int × T1 × Int × Bool × (List (List Int))) : Option ((Int × T2 × (List Int) × Int × Bool × (List T0) × Int × T1 × Int × Bool × (List (List Int)))) := zab x.1 x.2.1 x.2.2.1 x.2.2.2.1 x.2.2.2.2.1 x.2.2.2.2.2.1 x.2.2.2.2.2.2.1 x.2.2.2.2.2.2.2.1 x.2.2.2.2.2.2.2.2.1 x.2.2.2.2.2.2.2.2.2.1 x.2.2.2.2.2.2.2.2.2.2
theorem zta : FnOK Try.prog zix zhv :=
 fn_ok zs4 (h := (.two .no (.two (.reg [] [10, 0, 1]) (.join (fun _ => zad) .no .no)))) Try.func33 (z0h [.xs (fun _ => zad)] (by kernel_rfl) ⟨(z2l zo2), trivial⟩) (by kernel_rfl) zqr (fun x => by kernel_rfl)
def zwi : Env := ⟨[(entQ z5q z4v), (entQ zdu zcs)], [(entP zkl zi4), (entP z8t z8f), (entP zix zhv)], []⟩
theorem zhg : EnvsOK Try.prog zwi := ⟨z0c (z0e z6u) (z0c (z0e zki) (z0i _)), z0k (z0r zw3) (z0k (z0r zbb) (z0k (z0r zta) (z0g _))), z0f _⟩
def zat : Shp := ⟨99, 2, [(0, .pt 0 r6 []), (1, .d (.int .i64)), (3, .d (.sl (.int .u8))), (4, .d (.int .i64))], [.var 75 (.ag [.pt 1 r0 [], .d c4, .d (.sl (.int .u8)), .d (.int .i64), .d .bool]), .var 71 (.ag [.wn 2 c1, .d c2, .d (.int .i64), .d c3, .d (.int .i64), .d .bool]), .row 86 c1]⟩
def zb3 : Shp := ⟨99, 2, [(10, .d (.int .i64))], [.var 75 (.ag [.pt 1 r0 [], .d c4, .d (.sl (.int .u8)), .d (.int .i64), .d .bool]), .var 71 (.ag [.wn 2 c1, .d c2, .d (.int .i64), .d c3, .d (.int .i64), .d .bool]), .row 86 c1]⟩
def z2p : XS := .or (.exit 0) zat.xe (.one .ret zb3.xe)
theorem zjq : z2p.OK := XS.or_ok (z0a zat) (XS.one_ok (z0a zb3))
def z2r : Shp := ⟨99, 2, [(0, .pt 0 r6 []), (1, .d (.int .i64)), (3, .d (.sl (.int .u8))), (4, .d (.int .i64)), (11, .d (.int .i64))], [.var 75 (.ag [.pt 1 r0 [], .d c4, .d (.sl (.int .u8)), .d (.int .i64), .d .bool]), .var 71 (.ag [.wn 2 c1, .d c2, .d (.int .i64), .d c3, .d (.int .i64), .d .bool]), .row 86 c1]⟩
abbrev z7s := Int × (List Int) × Int × Int × T2 × (List Int) × Int × Bool × (List T0) × Int × T1 × Int × Bool × (List (List Int))
abbrev zbu := (Int × (List Int) × Int × T2 × (List Int) × Int × Bool × (List T0) × Int × T1 × Int × Bool × (List (List Int))) ⊕ (Int × T2 × (List Int) × Int × Bool × (List T0) × Int × T1 × Int × Bool × (List (List Int)))
def z2t (side : Int) (all : List Int) (count : Int) (i : Int) (j : T2) (j2 : List Int) (j3 : Int) (j4 : Bool) (j5 : List T0) (j6 : Int) (j7 : T1) (j8 : Int) (j9 : Bool) (j10 : List (List Int)) : Option (z7s ⊕ zbu) :=
 z0j (List.length all) (
 bif ltI (W64 (i * 256)) (List.length all : Nat) then
 bif subOk (W64 (i * 256)) (List.length all : Nat) (List.length all) then
 bif Nat.ble 256 (List.length (List.replicate 256 (0 : Int))) then
 winK j10 0 (List.length j10) fun w =>
 (z9k (w, j5, j6, j7, j8, j9) j j2 j3 j4 side i).bind fun r =>
 bif Nat.beq 256 (List.length (cpyL (List.replicate 256 (0 : Int)) 0 256 (subL all (W64 (i * 256)) (List.length all : Nat)))) then
 bif Nat.beq (List.length j10) (List.length j10) then
 (z8n r j5 j6 j7 j8 j9 (cpyL (List.replicate 256 (0 : Int)) 0 256 (subL all (W64 (i * 256)) (List.length all : Nat))) j10).bind fun r2 =>
 bif neI r2.1 0 then
 bif Nat.beq (List.length r2.2.2.2.2.2.2.2) (List.length r2.2.2.2.2.2.2.2) then
 some (.inr (.inr (r2.1, j, j2, j3, true, r2.2.1, r2.2.2.1, r2.2.2.2.1, r2.2.2.2.2.1, r2.2.2.2.2.2.1, r2.2.2.2.2.2.2.2)))
 else none
 else
 bif Nat.beq (List.length r2.2.2.2.2.2.2.2) (List.length r2.2.2.2.2.2.2.2) then
 some (.inl (side, all, count, W64 (i + 1), j, j2, j3, j4, r2.2.1, r2.2.2.1, r2.2.2.2.1, r2.2.2.2.2.1, r2.2.2.2.2.2.1, r2.2.2.2.2.2.2.2))
 else none
 else none
 else none
 else none
 else none
 else
 bif Nat.beq (List.length j10) (List.length j10) then
 some (.inr (.inl (side, all, count, j, j2, j3, j4, j5, j6, j7, j8, j9, j10)))
 else none)
def z1m (s : z7s) : Option (z7s ⊕ zbu) := z2t s.1 s.2.1 s.2.2.1 s.2.2.2.1 s.2.2.2.2.1 s.2.2.2.2.2.1 s.2.2.2.2.2.2.1 s.2.2.2.2.2.2.2.1 s.2.2.2.2.2.2.2.2.1 s.2.2.2.2.2.2.2.2.2.1 s.2.2.2.2.2.2.2.2.2.2.1 s.2.2.2.2.2.2.2.2.2.2.2.1 s.2.2.2.2.2.2.2.2.2.2.2.2.1 s.2.2.2.2.2.2.2.2.2.2.2.2.2
theorem zk8 : SoundD Try.prog (.loop (subC (bodyC Try.f37) [1, 1, 0, 1, 0, 0])) (loopD z2r.xe z2p (loopC z1m)) :=
 z2a (S := z2r.xe) (X := z2p) zhg (h := (.two .no (.two (.two .no (.two .no (.two (.reg [] [9, 0, 1]) .no))) .no))) (z0h [] (by kernel_rfl) trivial) (z0a z2r) zjq z1m (fun s => by kernel_rfl)
def zhp : Shp := ⟨1, 2, [(0, .d (.int .i64))], [.var 75 (.ag [.pt 1 r0 [], .d c4, .d (.sl (.int .u8)), .d (.int .i64), .d .bool]), .var 71 (.ag [.wn 2 c1, .d c2, .d (.int .i64), .d c3, .d (.int .i64), .d .bool]), .row 86 c1]⟩
def zkn : XS := .one .ret zhp.xe
theorem zsn : zkn.OK := XS.one_ok (z0a zhp)
def z8q (side : Int) (there : Int) (all : List Int) (count : Int) (j : T2) (j2 : List Int) (j3 : Int) (j4 : Bool) (j5 : List T0) (j6 : Int) (j7 : T1) (j8 : Int) (j9 : Bool) (j10 : List (List Int)) : Option ((Int × T2 × (List Int) × Int × Bool × (List T0) × Int × T1 × Int × Bool × (List (List Int)))) :=
 bif eqI j.1 4611686018427387904 then
 bif Nat.beq (List.length j10) (List.length j10) then
 some (5, j, j2, j3, j4, j5, j6, j7, j8, j9, j10)
 else none
 else
 z0j (List.length all) (
 winK j10 0 (List.length j10) fun w =>
 (z4g (w, j5, j6, j7, j8, j9)).bind fun r =>
 bif ltI (W64 (r * 256)) (List.length all : Nat) then
 bif Nat.beq (List.length j10) (List.length j10) then
 some (5, j, j2, j3, j4, j5, j6, j7, j8, j9, j10)
 else none
 else
 bif Nat.beq (List.length j10) (List.length j10) then
 (loopC z1m (side, all, count, W64 (Int.tdiv there 256), j, j2, j3, j4, j5, j6, j7, j8, j9, j10)).bind fun o =>
 Sum.elim (fun y =>
 bif Nat.beq (List.length y.2.2.2.2.2.2.2.2.2.2.2.2) (List.length y.2.2.2.2.2.2.2.2.2.2.2.2) then
 (z4p y.2.2.2.2.2.2.2.1 y.2.2.2.2.2.2.2.2.1 y.2.2.2.2.2.2.2.2.2.1 y.2.2.2.2.2.2.2.2.2.2.1 y.2.2.2.2.2.2.2.2.2.2.2.1 y.2.2.2.2.2.2.2.2.2.2.2.2).bind fun r2 =>
 bif neI r2.1 0 then
 bif Nat.beq (List.length r2.2.2.2.2.2.2) (List.length r2.2.2.2.2.2.2) then
 some (r2.1, y.2.2.2.1, y.2.2.2.2.1, y.2.2.2.2.2.1, true, r2.2.1, r2.2.2.1, r2.2.2.2.1, r2.2.2.2.2.1, r2.2.2.2.2.2.1, r2.2.2.2.2.2.2)
 else none
 else
 z0j (List.length y.2.1) (
 bif Nat.beq (List.length r2.2.2.2.2.2.2) (List.length r2.2.2.2.2.2.2) then
 (zab (WU64 (y.2.2.2.1.1 + 1), y.1, (List.length y.2.1 : Nat)) y.2.2.2.1 y.2.2.2.2.1 y.2.2.2.2.2.1 y.2.2.2.2.2.2.1 r2.2.1 r2.2.2.1 r2.2.2.2.1 r2.2.2.2.2.1 r2.2.2.2.2.2.1 r2.2.2.2.2.2.2).bind fun r3 =>
 bif neI r3.1 0 then
 bif Nat.beq (List.length r3.2.2.2.2.2.2.2.2.2.2) (List.length r3.2.2.2.2.2.2.2.2.2.2) then
 some (r3.1, r3.2.1, r3.2.2.1, r3.2.2.2.1, r3.2.2.2.2.1, r3.2.2.2.2.2.1, r3.2.2.2.2.2.2.1, r3.2.2.2.2.2.2.2.1, r3.2.2.2.2.2.2.2.2.1, r3.2.2.2.2.2.2.2.2.2.1, r3.2.2.2.2.2.2.2.2.2.2)
 else none
 else
 bif Nat.beq (List.length r3.2.2.2.2.2.2.2.2.2.2) (List.length r3.2.2.2.2.2.2.2.2.2.2) then
 some (0, r3.2.1, y.2.1, y.2.2.1, r3.2.2.2.2.1, r3.2.2.2.2.2.1, r3.2.2.2.2.2.2.1, r3.2.2.2.2.2.2.2.1, r3.2.2.2.2.2.2.2.2.1, r3.2.2.2.2.2.2.2.2.2.1, r3.2.2.2.2.2.2.2.2.2.2)
 else none
 else none)
 else none) (fun y2 =>
 bif Nat.beq (List.length y2.2.2.2.2.2.2.2.2.2.2) (List.length y2.2.2.2.2.2.2.2.2.2.2) then
 some (y2.1, y2.2.1, y2.2.2.1, y2.2.2.2.1, y2.2.2.2.2.1, y2.2.2.2.2.2.1, y2.2.2.2.2.2.2.1, y2.2.2.2.2.2.2.2.1, y2.2.2.2.2.2.2.2.2.1, y2.2.2.2.2.2.2.2.2.2.1, y2.2.2.2.2.2.2.2.2.2.2)
 else none) o
 else none)
def zco : Sig := ⟨37, [.pt 0 r6 [], .d (.int .i64), .d (.int .i64), .d (.sl (.int .u8)), .d (.int .i64)], [.var 75 (.ag [.pt 1 r0 [], .d c4, .d (.sl (.int .u8)), .d (.int .i64), .d .bool]), .var 71 (.ag [.wn 2 c1, .d c2, .d (.int .i64), .d c3, .d (.int .i64), .d .bool]), .row 86 c1], 2, zkn⟩
def zce (x : Int × Int × (List Int) × Int × T2 × (List Int) × Int × Bool × (List T0) × Int × T1 × Int × Bool × (List (List Int))) : Option ((Int × T2 × (List Int) × Int × Bool × (List T0) × Int × T1 × Int × Bool × (List (List Int)))) := z8q x.1 x.2.1 x.2.2.1 x.2.2.2.1 x.2.2.2.2.1 x.2.2.2.2.2.1 x.2.2.2.2.2.2.1 x.2.2.2.2.2.2.2.1 x.2.2.2.2.2.2.2.2.1 x.2.2.2.2.2.2.2.2.2.1 x.2.2.2.2.2.2.2.2.2.2.1 x.2.2.2.2.2.2.2.2.2.2.2.1 x.2.2.2.2.2.2.2.2.2.2.2.2.1 x.2.2.2.2.2.2.2.2.2.2.2.2.2
theorem zjj : FnOK Try.prog zco zce :=
 fn_ok zhg (h := (.two .no (.two .no (.two (.two .no (.over (loopD z2r.xe z2p (loopC z1m)))) .no)))) Try.func37 (z0h [.den (.loop (subC (bodyC Try.f37) [1, 1, 0, 1, 0, 0])) (loopD z2r.xe z2p (loopC z1m))] (by kernel_rfl) ⟨zk8, trivial⟩) (by kernel_rfl) zsn (fun x => by kernel_rfl)
def zwl : Env := ⟨[(entQ z8b z7l), (entQ z5q z4v), (entQ zf4 zdb), (entQ zl2 zjw)], [(entP zco zce)], []⟩
theorem ztk : EnvsOK Try.prog zwl := ⟨z0c (z0e zao) (z0c (z0e z6u) (z0c (z0e zht) (z0c (z0e zrj) (z0i _)))), z0k (z0r zjj) (z0g _), z0f _⟩
def zh6 : Shp := ⟨1, 2, [(0, .d (.int .i64))], [.var 75 (.ag [.pt 1 r0 [], .d c4, .d (.sl (.int .u8)), .d (.int .i64), .d .bool]), .var 71 (.ag [.wn 2 c1, .d c2, .d (.int .i64), .d c3, .d (.int .i64), .d .bool]), .row 86 c1]⟩
def zkq : XS := .one .ret zh6.xe
theorem zso : zkq.OK := XS.one_ok (z0a zh6)
def z0v (records : List (List Int)) (j : T2) (j2 : List Int) (j3 : Int) (j4 : Bool) (j5 : List T0) (j6 : Int) (j7 : T1) (j8 : Int) (j9 : Bool) (j10 : List (List Int)) : Option ((Int × T2 × (List Int) × Int × Bool × (List T0) × Int × T1 × Int × Bool × (List (List Int)))) :=
 winK j10 0 (List.length j10) fun w =>
 (z2w (w, j5, j6, j7, j8, j9) j j2 j3 j4).bind fun r =>
 bif r then
 bif Nat.beq (List.length j10) (List.length j10) then
 some (3, j, j2, j3, j4, j5, j6, j7, j8, j9, j10)
 else none
 else
 winK j10 0 (List.length j10) fun w2 =>
 (z4g (w2, j5, j6, j7, j8, j9)).bind fun r2 =>
 (zc0 records (W64 (r2 * 256))).bind fun r3 =>
 bif neI r3.2 0 then
 bif Nat.beq (List.length j10) (List.length j10) then
 some (r3.2, j, j2, j3, j4, j5, j6, j7, j8, j9, j10)
 else none
 else
 z0j (List.length records) (
 bif eqI (List.length records : Nat) 0 then
 bif Nat.beq (List.length j10) (List.length j10) then
 some (r3.2, j, j2, j3, j4, j5, j6, j7, j8, j9, j10)
 else none
 else
 z0j (List.length j2) (
 (zdh ([j2, r3.1] : List (List Int))).bind fun r4 =>
 z0j (List.length records) (
 bif Nat.beq (List.length j10) (List.length j10) then
 (z8q j.2.1 (List.length j2 : Nat) r4 (W64 (j3 + (List.length records : Nat))) j j2 j3 j4 j5 j6 j7 j8 j9 j10).bind fun r5 =>
 bif Nat.beq (List.length r5.2.2.2.2.2.2.2.2.2.2) (List.length r5.2.2.2.2.2.2.2.2.2.2) then
 some (r5.1, r5.2.1, r5.2.2.1, r5.2.2.2.1, r5.2.2.2.2.1, r5.2.2.2.2.2.1, r5.2.2.2.2.2.2.1, r5.2.2.2.2.2.2.2.1, r5.2.2.2.2.2.2.2.2.1, r5.2.2.2.2.2.2.2.2.2.1, r5.2.2.2.2.2.2.2.2.2.2)
 else none
 else none)))
def zct : Sig := ⟨11, [.pt 0 r6 [], .d c5], [.var 75 (.ag [.pt 1 r0 [], .d c4, .d (.sl (.int .u8)), .d (.int .i64), .d .bool]), .var 71 (.ag [.wn 2 c1, .d c2, .d (.int .i64), .d c3, .d (.int .i64), .d .bool]), .row 86 c1], 2, zkq⟩
def zc7 (x : (List (List Int)) × T2 × (List Int) × Int × Bool × (List T0) × Int × T1 × Int × Bool × (List (List Int))) : Option ((Int × T2 × (List Int) × Int × Bool × (List T0) × Int × T1 × Int × Bool × (List (List Int)))) := z0v x.1 x.2.1 x.2.2.1 x.2.2.2.1 x.2.2.2.2.1 x.2.2.2.2.2.1 x.2.2.2.2.2.2.1 x.2.2.2.2.2.2.2.1 x.2.2.2.2.2.2.2.2.1 x.2.2.2.2.2.2.2.2.2.1 x.2.2.2.2.2.2.2.2.2.2
theorem zj6 : FnOK Try.prog zct zc7 :=
 fn_ok ztk (h := (.two .no (.two .no (.two .no (.two .no (.two (.reg [] [25, 0, 1]) .no)))))) Try.func11 (z0h [] (by kernel_rfl) trivial) (by kernel_rfl) zso (fun x => by kernel_rfl)
def zvy : Env := ⟨[(entQ z5q z4v)], [], []⟩
theorem zs0 : EnvsOK Try.prog zvy := ⟨z0c (z0e z6u) (z0i _), z0g _, z0f _⟩
def zga : Shp := ⟨1, 0, [(0, .d (.int .i64))], []⟩
def zjm : XS := .one .ret zga.xe
theorem zra : zjm.OK := XS.one_ok (z0a zga)
def za5 (j : T3) (j2 : T2) (j3 : List Int) (j4 : Int) (j5 : Bool) : Option ((Int)) :=
 (z4g j).bind fun r =>
 z0j (List.length j3) (
 some (W64 ((W64 (r * 256)) - (List.length j3 : Nat))))
def zia : Sig := ⟨13, [.rf (.ag [.rf (.d c8), .d c4, .d (.sl (.int .u8)), .d (.int .i64), .d .bool])], [], 0, zjm⟩
def zh5 (x : T3 × T2 × (List Int) × Int × Bool) : Option ((Int)) := za5 x.1 x.2.1 x.2.2.1 x.2.2.2.1 x.2.2.2.2
theorem zu6 : FnOK Try.prog zia zh5 :=
 fn_ok zs0 (h := .no) Try.func13 (z0h [] (by kernel_rfl) trivial) (by kernel_rfl) zra (fun x => by kernel_rfl)
def zx0 : Env := ⟨[], [], []⟩
theorem zu3 : EnvsOK Try.prog zx0 := ⟨z0i _, z0g _, z0f _⟩
def zhr : Shp := ⟨1, 0, [(0, .d (.int .i64))], []⟩
def zl1 : XS := .one .ret zhr.xe
theorem zs2 : zl1.OK := XS.one_ok (z0a zhr)
def zf2 (j : T3) (j2 : T2) (j3 : List Int) (j4 : Int) (j5 : Bool) : Option ((Int)) :=
 some j4
def zkb : Sig := ⟨14, [.rf (.ag [.rf (.d c8), .d c4, .d (.sl (.int .u8)), .d (.int .i64), .d .bool])], [], 0, zl1⟩
def zik (x : T3 × T2 × (List Int) × Int × Bool) : Option ((Int)) := zf2 x.1 x.2.1 x.2.2.1 x.2.2.2.1 x.2.2.2.2
theorem zw5 : FnOK Try.prog zkb zik :=
 fn_ok zu3 (h := .no) Try.func14 (z0h [] (by kernel_rfl) trivial) (by kernel_rfl) zs2 (fun x => by kernel_rfl)
def z1e4 : Env := ⟨[(entQ zlf zku), (entQ zne zll), (entQ zia zh5), (entQ zkb zik)], [(entP zpx zod), (entP zmh zl4), (entP zcv zc3), (entP zmm zl9), (entP zct zc7)], []⟩
theorem z1bg : EnvsOK Try.prog z1e4 := ⟨z0c (z0e zwv) (z0c (z0e zy3) (z0c (z0e zu6) (z0c (z0e zw5) (z0i _)))), z0k (z0r zxx) (z0k (z0r zt0) (z0k (z0r zjh) (z0k (z0r zsu) (z0k (z0r zj6) (z0g _))))), z0f _⟩
def zwe : Shp := ⟨72, 0, [(1, .c .nilp)], []⟩
def zvf : Shp := ⟨72, 0, [(1, .pt 0 r0 [])], [.var 71 (.ag [.wn 1 c1, .d c2, .d (.int .i64), .d c3, .d (.int .i64), .d .bool]), .row 86 c1]⟩
def zq6 : XS := .or .normal zwe.xe (.one .normal zvf.xe)
theorem z16f : zq6.OK := XS.or_ok (z0a zwe) (XS.one_ok (z0a zvf))
def zqu : Shp := ⟨72, 0, [(1, .c .nilp), (3, .c .nilp), (4, .d c5), (5, .d (.int .i64))], []⟩
def zqt : Shp := ⟨72, 0, [(1, .c .nilp), (3, .pt 0 r6 []), (4, .wn 1 (.sl (.int .u8))), (5, .d (.int .i64))], [.var 75 (.ag [.c .nilp, .d c4, .d (.sl (.int .u8)), .d (.int .i64), .d .bool]), .row 34 (.sl (.int .u8))]⟩
def zmi : XS := .or .normal zqu.xe (.one .normal zqt.xe)
theorem z13f : zmi.OK := XS.or_ok (z0a zqu) (XS.one_ok (z0a zqt))
def zst : Shp := ⟨72, 0, [(1, .c .nilp)], []⟩
def zlt : Shp := ⟨72, 0, [(3, .pt 0 r6 []), (4, .d c5), (5, .d (.int .i64))], [.var 75 (.ag [.c .nilp, .d c4, .d (.sl (.int .u8)), .d (.int .i64), .d .bool])]⟩
def zg1 : XS := .one .normal zlt.xe
theorem zwr : zg1.OK := XS.one_ok (z0a zlt)
def zn2 : Shp := ⟨72, 0, [(1, .c .nilp), (3, .pt 0 r6 [])], [.var 75 (.ag [.c .nilp, .d c4, .d (.sl (.int .u8)), .d (.int .i64), .d .bool])]⟩
def zo6 : Shp := ⟨72, 0, [(1, .pt 0 r0 []), (3, .c .nilp), (4, .d c5), (5, .d (.int .i64))], [.var 71 (.ag [.wn 1 c1, .d c2, .d (.int .i64), .d c3, .d (.int .i64), .d .bool]), .row 86 c1]⟩
def zoa : Shp := ⟨72, 0, [(1, .pt 0 r0 []), (3, .pt 1 r6 []), (4, .wn 2 (.sl (.int .u8))), (5, .d (.int .i64))], [.var 71 (.ag [.wn 3 c1, .d c2, .d (.int .i64), .d c3, .d (.int .i64), .d .bool]), .var 75 (.ag [.pt 0 r0 [], .d c4, .d (.sl (.int .u8)), .d (.int .i64), .d .bool]), .row 34 (.sl (.int .u8)), .row 86 c1]⟩
def zjb : XS := .or .normal zo6.xe (.one .normal zoa.xe)
theorem zyp : zjb.OK := XS.or_ok (z0a zo6) (XS.one_ok (z0a zoa))
def zjn : Shp := ⟨72, 0, [(3, .pt 0 r6 []), (4, .d c5), (5, .d (.int .i64))], [.var 75 (.ag [.pt 1 r0 [], .d c4, .d (.sl (.int .u8)), .d (.int .i64), .d .bool]), .var 71 (.ag [.wn 2 c1, .d c2, .d (.int .i64), .d c3, .d (.int .i64), .d .bool]), .row 86 c1]⟩
def ze7 : XS := .one .normal zjn.xe
theorem zte : ze7.OK := XS.one_ok (z0a zjn)
def zx9 : Shp := ⟨1, 0, [(0, .d .bool)], []⟩
def z12i : XS := .one .ret zx9.xe
theorem z19h : z12i.OK := XS.one_ok (z0a zx9)
def ze6  : Option ((Bool)) :=
 (show Option ((Unit) ⊕ ((List T0) × Int × T1 × Int × Bool × (List (List Int)))) from
 (zer 6).bind fun r =>
 Sum.elim (fun y =>
 some (.inl ())) (fun y2 =>
 bif Nat.beq (List.length y2.2.2.2.2.2.2) (List.length y2.2.2.2.2.2.2) then
 some (.inr (y2.2.1, y2.2.2.1, y2.2.2.2.1, y2.2.2.2.2.1, y2.2.2.2.2.2.1, y2.2.2.2.2.2.2))
 else none) r).bind fun j =>
 Sum.elim (fun y3 =>
 (show Option (((List (List Int)) × Int) ⊕ (Int × T2 × (List Int) × Int × Bool × (List (List Int)))) from
 (z4k).bind fun r2 =>
 Sum.elim (fun y5 =>
 some (.inl (y5.1, y5.2))) (fun y6 =>
 bif Nat.beq (List.length y6.2.2.2.2.2) (List.length y6.2.2.2.2.2) then
 some (.inr (y6.1, y6.2.1, y6.2.2.1, y6.2.2.2.1, y6.2.2.2.2.1, y6.2.2.2.2.2))
 else none) r2).bind fun j2 =>
 Sum.elim (fun y7 =>
 some false) (fun y8 =>
 z0j (List.length y8.2.2.2.2.2) (
 bif neI (List.length y8.2.2.2.2.2 : Nat) 0 then
 some false
 else
 bif neI y8.1 0 then
 some false
 else
 winK ([97, 98] : List Int) 0 (List.length ([97, 98] : List Int)) fun w =>
 (z6f ([w, []] : List (List Int)) y8.2.1 y8.2.2.1 y8.2.2.2.1 y8.2.2.2.2.1).bind fun r3 =>
 bif neI r3.1 0 then
 some false
 else
 (show Option (((List (List Int)) × Int × T2 × (List Int) × Int × Bool)) from
 (z4k).bind fun r4 =>
 Sum.elim (fun y9 =>
 some (y9.1, y9.2, r3.2.1, r3.2.2.1, r3.2.2.2.1, r3.2.2.2.2)) (fun y10 =>
 winK y10.2.2.2.2.2 0 (List.length y10.2.2.2.2.2) fun w2 =>
 some (w2, y10.1, r3.2.1, r3.2.2.1, r3.2.2.2.1, r3.2.2.2.2)) r4).bind fun j3 =>
 bif eqI j3.2.1 0 then
 z0j (List.length j3.1) (
 bif eqI (List.length j3.1 : Nat) 2 then
 (idxI j3.1 0).bind fun x =>
 bif eqS x ([97, 98] : List Int) then
 (idxI j3.1 1).bind fun x2 =>
 z0j (List.length x2) (
 bif eqI (List.length x2 : Nat) 0 then
 (znz j3.2.2.1 j3.2.2.2.1 j3.2.2.2.2.1 j3.2.2.2.2.2).bind fun r5 =>
 bif eqI r5 500 then
 (zpd j3.2.2.1 j3.2.2.2.1 j3.2.2.2.2.1 j3.2.2.2.2.2).bind fun r6 =>
 some (eqI r6 2)
 else
 some false
 else
 some false)
 else
 some false
 else
 some false)
 else
 some false)) j2) (fun y4 =>
 (show Option (((List (List Int)) × Int × (List T0) × Int × T1 × Int × Bool × (List (List Int))) ⊕ (Int × (List T0) × Int × T1 × Int × Bool × T2 × (List Int) × Int × Bool × (List (List Int)) × (List (List Int)))) from
 bif Nat.beq (List.length y4.2.2.2.2.2) (List.length y4.2.2.2.2.2) then
 (z1h y4.1 y4.2.1 y4.2.2.1 y4.2.2.2.1 y4.2.2.2.2.1 y4.2.2.2.2.2).bind fun r7 =>
 Sum.elim (fun y11 =>
 bif Nat.beq (List.length y11.2.2.2.2.2.2.2) (List.length y11.2.2.2.2.2.2.2) then
 some (.inl (y11.1, y11.2.1, y11.2.2.1, y11.2.2.2.1, y11.2.2.2.2.1, y11.2.2.2.2.2.1, y11.2.2.2.2.2.2.1, y11.2.2.2.2.2.2.2))
 else none) (fun y12 =>
 bif Nat.beq (List.length y12.2.2.2.2.2.2.2.2.2.2.1) (List.length y12.2.2.2.2.2.2.2.2.2.2.1) then
 bif Nat.beq (List.length y12.2.2.2.2.2.2.2.2.2.2.2) (List.length y12.2.2.2.2.2.2.2.2.2.2.2) then
 some (.inr (y12.1, y12.2.1, y12.2.2.1, y12.2.2.2.1, y12.2.2.2.2.1, y12.2.2.2.2.2.1, y12.2.2.2.2.2.2.1, y12.2.2.2.2.2.2.2.1, y12.2.2.2.2.2.2.2.2.1, y12.2.2.2.2.2.2.2.2.2.1, y12.2.2.2.2.2.2.2.2.2.2.1, y12.2.2.2.2.2.2.2.2.2.2.2))
 else none
 else none) r7
 else none).bind fun j4 =>
 Sum.elim (fun y13 =>
 some false) (fun y14 =>
 z0j (List.length y14.2.2.2.2.2.2.2.2.2.2.1) (
 bif neI (List.length y14.2.2.2.2.2.2.2.2.2.2.1 : Nat) 0 then
 some false
 else
 bif neI y14.1 0 then
 some false
 else
 winK ([97, 98] : List Int) 0 (List.length ([97, 98] : List Int)) fun w3 =>
 bif Nat.beq (List.length y14.2.2.2.2.2.2.2.2.2.2.2) (List.length y14.2.2.2.2.2.2.2.2.2.2.2) then
 (z0v ([w3, []] : List (List Int)) y14.2.2.2.2.2.2.1 y14.2.2.2.2.2.2.2.1 y14.2.2.2.2.2.2.2.2.1 y14.2.2.2.2.2.2.2.2.2.1 y14.2.1 y14.2.2.1 y14.2.2.2.1 y14.2.2.2.2.1 y14.2.2.2.2.2.1 y14.2.2.2.2.2.2.2.2.2.2.2).bind fun r8 =>
 bif neI r8.1 0 then
 some false
 else
 (show Option (((List (List Int)) × Int × T2 × (List Int) × Int × Bool × (List T0) × Int × T1 × Int × Bool × (List (List Int)))) from
 bif Nat.beq (List.length r8.2.2.2.2.2.2.2.2.2.2) (List.length r8.2.2.2.2.2.2.2.2.2.2) then
 (z1h r8.2.2.2.2.2.1 r8.2.2.2.2.2.2.1 r8.2.2.2.2.2.2.2.1 r8.2.2.2.2.2.2.2.2.1 r8.2.2.2.2.2.2.2.2.2.1 r8.2.2.2.2.2.2.2.2.2.2).bind fun r9 =>
 Sum.elim (fun y15 =>
 bif Nat.beq (List.length y15.2.2.2.2.2.2.2) (List.length y15.2.2.2.2.2.2.2) then
 some (y15.1, y15.2.1, r8.2.1, r8.2.2.1, r8.2.2.2.1, r8.2.2.2.2.1, y15.2.2.1, y15.2.2.2.1, y15.2.2.2.2.1, y15.2.2.2.2.2.1, y15.2.2.2.2.2.2.1, y15.2.2.2.2.2.2.2)
 else none) (fun y16 =>
 winK y16.2.2.2.2.2.2.2.2.2.2.1 0 (List.length y16.2.2.2.2.2.2.2.2.2.2.1) fun w4 =>
 bif Nat.beq (List.length y16.2.2.2.2.2.2.2.2.2.2.2) (List.length y16.2.2.2.2.2.2.2.2.2.2.2) then
 some (w4, y16.1, r8.2.1, r8.2.2.1, r8.2.2.2.1, r8.2.2.2.2.1, y16.2.1, y16.2.2.1, y16.2.2.2.1, y16.2.2.2.2.1, y16.2.2.2.2.2.1, y16.2.2.2.2.2.2.2.2.2.2.2)
 else none) r9
 else none).bind fun j5 =>
 bif eqI j5.2.1 0 then
 z0j (List.length j5.1) (
 bif eqI (List.length j5.1 : Nat) 2 then
 (idxI j5.1 0).bind fun x3 =>
 bif eqS x3 ([97, 98] : List Int) then
 (idxI j5.1 1).bind fun x4 =>
 z0j (List.length x4) (
 bif eqI (List.length x4 : Nat) 0 then
 winK j5.2.2.2.2.2.2.2.2.2.2.2 0 (List.length j5.2.2.2.2.2.2.2.2.2.2.2) fun w5 =>
 (za5 (w5, j5.2.2.2.2.2.2.1, j5.2.2.2.2.2.2.2.1, j5.2.2.2.2.2.2.2.2.1, j5.2.2.2.2.2.2.2.2.2.1, j5.2.2.2.2.2.2.2.2.2.2.1) j5.2.2.1 j5.2.2.2.1 j5.2.2.2.2.1 j5.2.2.2.2.2.1).bind fun r10 =>
 bif eqI r10 500 then
 winK j5.2.2.2.2.2.2.2.2.2.2.2 0 (List.length j5.2.2.2.2.2.2.2.2.2.2.2) fun w6 =>
 (zf2 (w6, j5.2.2.2.2.2.2.1, j5.2.2.2.2.2.2.2.1, j5.2.2.2.2.2.2.2.2.1, j5.2.2.2.2.2.2.2.2.2.1, j5.2.2.2.2.2.2.2.2.2.2.1) j5.2.2.1 j5.2.2.2.1 j5.2.2.2.2.1 j5.2.2.2.2.2.1).bind fun r11 =>
 some (eqI r11 2)
 else
 some false
 else
 some false)
 else
 some false
 else
 some false)
 else
 some false
 else none)) j4) j
def z12p : Sig := ⟨8, [], [], 0, z12i⟩
def zzu (x : Unit) : Option ((Bool)) := ze6 
theorem z1c2 : FnOK Try.prog z12p zzu :=
 fn_ok z1bg (h := (.two .no (.join (fun _ => zq6) .no (.join (altX zst.fit (fun _ => zmi) (fun _ => zjb)) .no (.two (.two (.reg [13, 2000015] []) .no) (.join (altX zn2.fit (fun _ => zg1) (fun _ => ze7)) .no .no)))))) Try.func8 (z0h [.xs (fun _ => zq6), .xs (altX zst.fit (fun _ => zmi) (fun _ => zjb)), .xs (altX zn2.fit (fun _ => zg1) (fun _ => ze7))] (by kernel_rfl) ⟨(z2l z16f), (zcy (z2l z13f) (z2l zyp)), (zcy (z2l zwr) (z2l zte)), trivial⟩) (by kernel_rfl) z19h (fun x => by kernel_rfl)
def zs3 : Env := ⟨[], [], []⟩
theorem zpo : EnvsOK Try.prog zs3 := ⟨z0i _, z0g _, z0f _⟩
def zf7 : Shp := ⟨1, 0, [(0, .d .bool)], []⟩
def zg8 : XS := .one .ret zf7.xe
theorem zp4 : zg8.OK := XS.one_ok (z0a zf7)
def z1b  : Option ((Bool)) :=
 some true
def z8c : Sig := ⟨15, [.c .nilp], [], 0, zg8⟩
def z7n (x : Unit) : Option ((Bool)) := z1b 
theorem zan : FnOK Try.prog z8c z7n :=
 fn_ok zpo (h := .no) Try.func15 (z0h [] (by kernel_rfl) trivial) (by kernel_rfl) zp4 (fun x => by kernel_rfl)
def zvp : Env := ⟨[], [], []⟩
theorem zsq : EnvsOK Try.prog zvp := ⟨z0i _, z0g _, z0f _⟩
def zgj : Shp := ⟨1, 0, [(0, .d (.int .i64))], []⟩
def zil : XS := .one .ret zgj.xe
theorem zr0 : zil.OK := XS.one_ok (z0a zgj)
def z5l  : Option ((Int)) :=
 some 0
def zjo : Sig := ⟨13, [.c .nilp], [], 0, zil⟩
def zhc (x : Unit) : Option ((Int)) := z5l 
theorem zu1 : FnOK Try.prog zjo zhc :=
 fn_ok zsq (h := .no) Try.func13 (z0h [] (by kernel_rfl) trivial) (by kernel_rfl) zr0 (fun x => by kernel_rfl)
def zwt : Env := ⟨[], [], []⟩
theorem ztd : EnvsOK Try.prog zwt := ⟨z0i _, z0g _, z0f _⟩
def zhm : Shp := ⟨1, 0, [(0, .d (.int .i64))], []⟩
def zkm : XS := .one .ret zhm.xe
theorem zsc : zkm.OK := XS.one_ok (z0a zhm)
def z6e  : Option ((Int)) :=
 some 0
def zks : Sig := ⟨14, [.c .nilp], [], 0, zkm⟩
def zis (x : Unit) : Option ((Int)) := z6e 
theorem zv6 : FnOK Try.prog zks zis :=
 fn_ok ztd (h := .no) Try.func14 (z0h [] (by kernel_rfl) trivial) (by kernel_rfl) zsc (fun x => by kernel_rfl)
def zwq : Env := ⟨[], [], []⟩
theorem ztf : EnvsOK Try.prog zwq := ⟨z0i _, z0g _, z0f _⟩
def zh4 : Shp := ⟨1, 0, [(0, .d (.int .i64))], []⟩
def zke : XS := .one .ret zh4.xe
theorem zs5 : zke.OK := XS.one_ok (z0a zh4)
def z6g  : Option ((Int)) :=
 some 0
def zkz : Sig := ⟨16, [.c .nilp], [], 0, zke⟩
def zje (x : Unit) : Option ((Int)) := z6g 
theorem zw9 : FnOK Try.prog zkz zje :=
 fn_ok ztf (h := .no) Try.func16 (z0h [] (by kernel_rfl) trivial) (by kernel_rfl) zs5 (fun x => by kernel_rfl)
def zwx : Env := ⟨[(entQ z8c z7n)], [], []⟩
theorem ztb : EnvsOK Try.prog zwx := ⟨z0c (z0e zan) (z0i _), z0g _, z0f _⟩
def zhq : Shp := ⟨1, 0, [(0, .d (.int .i64))], []⟩
def zkv : XS := .one .ret zhq.xe
theorem zs7 : zkv.OK := XS.one_ok (z0a zhq)
def z0s (records : List (List Int)) : Option ((Int)) :=
 (z1b).bind fun r =>
 bif r then
 some 3
 else
 none
def zkg : Sig := ⟨11, [.c .nilp, .d c5], [], 0, zkv⟩
def zhz (x : (List (List Int))) : Option ((Int)) := z0s x
theorem zvt : FnOK Try.prog zkg zhz :=
 fn_ok ztb (h := .no) Try.func11 (z0h [] (by kernel_rfl) trivial) (by kernel_rfl) zs7 (fun x => by kernel_rfl)
def zr3 : Env := ⟨[(entQ z8z z8s), (entQ z7g z6p), (entQ zf4 zdb)], [(entP zcq zcd)], []⟩
theorem zoz : EnvsOK Try.prog zr3 := ⟨z0c (z0e zbm) (z0c (z0e z8p) (z0c (z0e zht) (z0i _))), z0k (z0r zi8) (z0g _), z0f _⟩
def zed : Shp := ⟨1, 1, [(0, .d (.int .i64))], [.var 75 (.ag [.c .nilp, .d c4, .d (.sl (.int .u8)), .d (.int .i64), .d .bool])]⟩
def zfl : XS := .one .ret zed.xe
theorem zol : zfl.OK := XS.one_ok (z0a zed)
def zbn (records : List (List Int)) (j : T2) (j2 : List Int) (j3 : Int) (j4 : Bool) : Option ((Int × T2 × (List Int) × Int × Bool)) :=
 (za6 j j2 j3 j4).bind fun r =>
 bif r then
 some (3, j, j2, j3, j4)
 else
 (z9a).bind fun r2 =>
 (zc0 records (W64 (r2 * 256))).bind fun r3 =>
 bif neI r3.2 0 then
 some (r3.2, j, j2, j3, j4)
 else
 z0j (List.length records) (
 (zf9 (W64 (1 - j.2.1)) 0 r3.1 (List.length records : Nat) j j2 j3 j4).bind fun r4 =>
 some (r4.1, r4.2.1, r4.2.2.1, r4.2.2.2.1, r4.2.2.2.2))
def zfi : Sig := ⟨12, [.pt 0 r6 [], .d c5], [.var 75 (.ag [.c .nilp, .d c4, .d (.sl (.int .u8)), .d (.int .i64), .d .bool])], 1, zfl⟩
def zex (x : (List (List Int)) × T2 × (List Int) × Int × Bool) : Option ((Int × T2 × (List Int) × Int × Bool)) := zbn x.1 x.2.1 x.2.2.1 x.2.2.2.1 x.2.2.2.2
theorem zq0 : FnOK Try.prog zfi zex :=
 fn_ok zoz (h := .no) Try.func12 (z0h [] (by kernel_rfl) trivial) (by kernel_rfl) zol (fun x => by kernel_rfl)
def zrq : Env := ⟨[(entQ z8c z7n)], [], []⟩
theorem zow : EnvsOK Try.prog zrq := ⟨z0c (z0e zan) (z0i _), z0g _, z0f _⟩
def zei : Shp := ⟨1, 0, [(0, .d (.int .i64))], []⟩
def zfq : XS := .one .ret zei.xe
theorem zo5 : zfq.OK := XS.one_ok (z0a zei)
def z0y (records : List (List Int)) : Option ((Int)) :=
 (z1b).bind fun r =>
 bif r then
 some 3
 else
 none
def zfo : Sig := ⟨12, [.c .nilp, .d c5], [], 0, zfq⟩
def zfa (x : (List (List Int))) : Option ((Int)) := z0y x
theorem zq1 : FnOK Try.prog zfo zfa :=
 fn_ok zow (h := .no) Try.func12 (z0h [] (by kernel_rfl) trivial) (by kernel_rfl) zo5 (fun x => by kernel_rfl)
def ztw : Env := ⟨[], [], []⟩
theorem zrf : EnvsOK Try.prog ztw := ⟨z0i _, z0g _, z0f _⟩
def zff : Shp := ⟨1, 0, [(0, .d (.int .i64))], []⟩
def zhk : XS := .one .ret zff.xe
theorem zpj : zhk.OK := XS.one_ok (z0a zff)
def z3k (d : T3) : Option ((Int)) :=
 some d.2.2.2.2.1
def zhe : Sig := ⟨16, [.rf (.d c8)], [], 0, zhk⟩
def zgf (x : T3) : Option ((Int)) := z3k x
theorem zs6 : FnOK Try.prog zhe zgf :=
 fn_ok zrf (h := .no) Try.func16 (z0h [] (by kernel_rfl) trivial) (by kernel_rfl) zpj (fun x => by kernel_rfl)
def zzj : Env := ⟨[(entQ zcg zbl)], [], []⟩
theorem zx1 : EnvsOK Try.prog zzj := ⟨z0c (z0e zg4) (z0i _), z0g _, z0f _⟩
def zko : Shp := ⟨1, 0, [(0, .tu [])], []⟩
def zn0 : XS := .one .ret zko.xe
theorem zv5 : zn0.OK := XS.one_ok (z0a zko)
def zh0 (c : T1) : Option ((Unit)) :=
 (zem).bind fun r =>
 bif r then
 some ()
 else
 none
def znd : Sig := ⟨17, [.c .nilp, .d c3], [], 0, zn0⟩
def zlv (x : T1) : Option ((Unit)) := zh0 x
theorem zyk : FnOK Try.prog znd zlv :=
 fn_ok zx1 (h := .no) Try.func17 (z0h [] (by kernel_rfl) trivial) (by kernel_rfl) zv5 (fun x => by kernel_rfl)
def zr9 : Env := ⟨[(entQ z8b z7l), (entQ z5q z4v), (entQ zf4 zdb)], [(entP zco zce)], []⟩
theorem zoy : EnvsOK Try.prog zr9 := ⟨z0c (z0e zao) (z0c (z0e z6u) (z0c (z0e zht) (z0i _))), z0k (z0r zjj) (z0g _), z0f _⟩
def zea : Shp := ⟨1, 2, [(0, .d (.int .i64))], [.var 75 (.ag [.pt 1 r0 [], .d c4, .d (.sl (.int .u8)), .d (.int .i64), .d .bool]), .var 71 (.ag [.wn 2 c1, .d c2, .d (.int .i64), .d c3, .d (.int .i64), .d .bool]), .row 86 c1]⟩
def zfs : XS := .one .ret zea.xe
theorem zoe : zfs.OK := XS.one_ok (z0a zea)
def z1n (records : List (List Int)) (j : T2) (j2 : List Int) (j3 : Int) (j4 : Bool) (j5 : List T0) (j6 : Int) (j7 : T1) (j8 : Int) (j9 : Bool) (j10 : List (List Int)) : Option ((Int × T2 × (List Int) × Int × Bool × (List T0) × Int × T1 × Int × Bool × (List (List Int)))) :=
 winK j10 0 (List.length j10) fun w =>
 (z2w (w, j5, j6, j7, j8, j9) j j2 j3 j4).bind fun r =>
 bif r then
 bif Nat.beq (List.length j10) (List.length j10) then
 some (3, j, j2, j3, j4, j5, j6, j7, j8, j9, j10)
 else none
 else
 winK j10 0 (List.length j10) fun w2 =>
 (z4g (w2, j5, j6, j7, j8, j9)).bind fun r2 =>
 (zc0 records (W64 (r2 * 256))).bind fun r3 =>
 bif neI r3.2 0 then
 bif Nat.beq (List.length j10) (List.length j10) then
 some (r3.2, j, j2, j3, j4, j5, j6, j7, j8, j9, j10)
 else none
 else
 z0j (List.length records) (
 bif Nat.beq (List.length j10) (List.length j10) then
 (z8q (W64 (1 - j.2.1)) 0 r3.1 (List.length records : Nat) j j2 j3 j4 j5 j6 j7 j8 j9 j10).bind fun r4 =>
 bif Nat.beq (List.length r4.2.2.2.2.2.2.2.2.2.2) (List.length r4.2.2.2.2.2.2.2.2.2.2) then
 some (r4.1, r4.2.1, r4.2.2.1, r4.2.2.2.1, r4.2.2.2.2.1, r4.2.2.2.2.2.1, r4.2.2.2.2.2.2.1, r4.2.2.2.2.2.2.2.1, r4.2.2.2.2.2.2.2.2.1, r4.2.2.2.2.2.2.2.2.2.1, r4.2.2.2.2.2.2.2.2.2.2)
 else none
 else none)
def zfr : Sig := ⟨12, [.pt 0 r6 [], .d c5], [.var 75 (.ag [.pt 1 r0 [], .d c4, .d (.sl (.int .u8)), .d (.int .i64), .d .bool]), .var 71 (.ag [.wn 2 c1, .d c2, .d (.int .i64), .d c3, .d (.int .i64), .d .bool]), .row 86 c1], 2, zfs⟩
def zew (x : (List (List Int)) × T2 × (List Int) × Int × Bool × (List T0) × Int × T1 × Int × Bool × (List (List Int))) : Option ((Int × T2 × (List Int) × Int × Bool × (List T0) × Int × T1 × Int × Bool × (List (List Int)))) := z1n x.1 x.2.1 x.2.2.1 x.2.2.2.1 x.2.2.2.2.1 x.2.2.2.2.2.1 x.2.2.2.2.2.2.1 x.2.2.2.2.2.2.2.1 x.2.2.2.2.2.2.2.2.1 x.2.2.2.2.2.2.2.2.2.1 x.2.2.2.2.2.2.2.2.2.2
theorem zq2 : FnOK Try.prog zfr zew :=
 fn_ok zoy (h := .no) Try.func12 (z0h [] (by kernel_rfl) trivial) (by kernel_rfl) zoe (fun x => by kernel_rfl)
end Go.Proofs.Ytpfjfldagldgnaa