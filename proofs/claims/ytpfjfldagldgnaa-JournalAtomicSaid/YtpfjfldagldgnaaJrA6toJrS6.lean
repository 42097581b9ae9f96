import Derived.Test.YtpfjfldagldgnaaJrA
import Derived.Test.YtpfjfldagldgnaaJrOtoJrS
set_option maxRecDepth 100000
set_option linter.unusedVariables false
noncomputable section
namespace Go.Proofs.Ytpfjfldagldgnaa
open Go.Tm Go.Ab
def z1c6 : Env := ⟨[], [], []⟩
theorem zto : EnvsOK Try.prog z1c6 := ⟨z0i _, z0e _, z0f _⟩
def zfv : Shp := ⟨19, 0, [(3, .wn 0 .str)], [.row 9 .str]⟩
def z5w : XS := .one (.exit 0) zfv.xe
theorem zqk : z5w.OK := XS.one_ok (z0a zfv)
def z6e : Shp := ⟨19, 0, [(3, .wn 0 .str), (6, .d c5), (7, .d (.int .i64)), (8, .d (.int .i64))], [.row 9 .str]⟩
abbrev zbw := (List (List Int)) × Int × Int × (List (List Int))
abbrev zhh := ((List (List Int)))
def z6h (t6 : List (List Int)) (t7 : Int) (t8 : Int) (out : List (List Int)) : Option (zbw ⊕ zhh) :=
 bif ltI t8 t7 then
 (idxI t6 t8).bind fun x =>
 bif Nat.beq (List.length out) (List.length out) then
 appG (List.length out) (List.length ([x] : List (List Int))) 16 fun _ =>
 bif Nat.beq (List.length (out ++ ([x] : List (List Int)))) (List.length (out ++ ([x] : List (List Int)))) then
 some (.inl (t6, t7, W64 (t8 + 1), out ++ ([x] : List (List Int))))
 else none
 else none
 else
 bif Nat.beq (List.length out) (List.length out) then
 some (.inr out)
 else none
def z4c (s : zbw) : Option (zbw ⊕ zhh) := z6h s.1 s.2.1 s.2.2.1 s.2.2.2
theorem zre : SoundD Try.prog (.loop (subC (bodyC Try.f19) [1, 1, 0, 1, 0, 0])) (loopD z6e.xe z5w (loopC z4c)) :=
 z1c (S := z6e.xe) (X := z5w) zto (h := .no) (z0d [] (by kernel_rfl) trivial) (z0a z6e) zqk z4c (fun s => by kernel_rfl)
def ztn : Shp := ⟨1, 0, [(0, .wn 0 .str)], [.row 9 .str]⟩
def zyn : XS := .one .ret ztn.xe
theorem z15u : zyn.OK := XS.one_ok (z0a ztn)
def z0s (l : List (List Int)) : Option (((List (List Int)))) :=
 z0j (List.length l) (
 bif Nat.beq 0 (List.length ([] : List (List Int))) then
 (loopC z4c (l, (List.length l : Nat), 0, ([] : List (List Int)))).bind fun o =>
 bif Nat.beq (List.length o) (List.length o) then
 some o
 else none
 else none)
def zy0 : Sig := ⟨19, [.d c5], [], 0, zyn⟩
def zwc (x : (List (List Int))) : Option (((List (List Int)))) := z0s x
theorem z19t : FnOK Try.prog zy0 zwc :=
 fn_ok zto (h := (.two .no (.two .no (.two (.two .no (.over (loopD z6e.xe z5w (loopC z4c)))) .no)))) Try.func19 (z0d [.den (.loop (subC (bodyC Try.f19) [1, 1, 0, 1, 0, 0])) (loopD z6e.xe z5w (loopC z4c))] (by kernel_rfl) ⟨zre, trivial⟩) (by kernel_rfl) z15u (fun x => by kernel_rfl)
def z1gc : Env := ⟨[], [], []⟩
theorem z11n : EnvsOK Try.prog z1gc := ⟨z0i _, z0e _, z0f _⟩
def zj9 : Shp := ⟨27, 0, [], []⟩
def zio : Shp := ⟨27, 0, [(4, .d .bool)], []⟩
def z7z : XS := .or (.exit 0) zj9.xe (.one .ret zio.xe)
theorem zu1 : z7z.OK := XS.or_ok (z0a zj9) (XS.one_ok (z0a zio))
def z7t : Shp := ⟨27, 0, [(0, .d c5), (12, .d (.sl .str)), (13, .d (.int .i64)), (14, .d (.int .i64))], []⟩
abbrev ze0 := (List (List Int)) × (List (List Int)) × Int × Int
abbrev zm9 := (Unit) ⊕ (Bool)
def z1w (a : List (List Int)) (t12 : List (List Int)) (t13 : Int) (t14 : Int) : Option (ze0 ⊕ zm9) :=
 bif ltI t14 t13 then
 (idxI t12 t14).bind fun x =>
 (idxI a t14).bind fun x2 =>
 bif !(eqS x2 x) then
 some (.inr (.inr false))
 else
 some (.inl (a, t12, t13, W64 (t14 + 1)))
 else
 some (.inr (.inl ()))
def z5l (s : ze0) : Option (ze0 ⊕ zm9) := z1w s.1 s.2.1 s.2.2.1 s.2.2.2
theorem zve : SoundD Try.prog (.loop (subC (bodyC Try.f20) [1, 1, 0, 1, 0, 0])) (loopD z7t.xe z7z (loopC z5l)) :=
 z1c (S := z7t.xe) (X := z7z) z11n (h := .no) (z0d [] (by kernel_rfl) trivial) (z0a z7t) zu1 z5l (fun s => by kernel_rfl)
def z11q : Shp := ⟨1, 0, [(0, .d .bool)], []⟩
def z15a : XS := .one .ret z11q.xe
theorem z1c7 : z15a.OK := XS.one_ok (z0a z11q)
def z4r (a : List (List Int)) (b : List (List Int)) : Option ((Bool)) :=
 z0j (List.length a) (
 z0j (List.length b) (
 bif neI (List.length a : Nat) (List.length b : Nat) then
 some false
 else
 z0j (List.length b) (
 (loopC z5l (a, b, (List.length b : Nat), 0)).bind fun o =>
 Sum.elim (fun y =>
 some true) (fun y2 =>
 some y2) o)))
def z15g : Sig := ⟨20, [.d c5, .d (.sl .str)], [], 0, z15a⟩
def z13z (x : (List (List Int)) × (List (List Int))) : Option ((Bool)) := z4r x.1 x.2
theorem z1fp : FnOK Try.prog z15g z13z :=
 fn_ok z11n (h := (.two .no (.two .no (.two (.two .no (.over (loopD z7t.xe z7z (loopC z5l)))) .no)))) Try.func20 (z0d [.den (.loop (subC (bodyC Try.f20) [1, 1, 0, 1, 0, 0])) (loopD z7t.xe z7z (loopC z5l))] (by kernel_rfl) ⟨zve, trivial⟩) (by kernel_rfl) z1c7 (fun x => by kernel_rfl)
def zzb : Env := ⟨[], [], []⟩
theorem zvy : EnvsOK Try.prog zzb := ⟨z0i _, z0e _, z0f _⟩
def zju : Shp := ⟨1, 0, [(0, .tu [])], []⟩
def zll : XS := .one .ret zju.xe
theorem zun : zll.OK := XS.one_ok (z0a zju)
def zg9 (after : Int) (c : T1) : Option ((Unit)) :=
 some ()
def zlv : Sig := ⟨23, [.c .nilp, .d (.int .i64), .d c3], [], 0, zll⟩
def zku (x : Int × T1) : Option ((Unit)) := zg9 x.1 x.2
theorem zxe : FnOK Try.prog zlv zku :=
 fn_ok zvy (h := .no) Try.func23 (z0d [] (by kernel_rfl) trivial) (by kernel_rfl) zun (fun x => by kernel_rfl)
def z14t : Env := ⟨[], [], []⟩
theorem z13g : EnvsOK Try.prog z14t := ⟨z0i _, z0e _, z0f _⟩
def zp2 : Shp := ⟨1, 0, [(0, .d .bool)], []⟩
def zrt : XS := .one .ret zp2.xe
theorem z10k : zrt.OK := XS.one_ok (z0a zp2)
def zmw  : Option ((Bool)) :=
 some false
def zrc : Sig := ⟨24, [.c .nilp], [], 0, zrt⟩
def zpx (x : Unit) : Option ((Bool)) := zmw 
theorem z14j : FnOK Try.prog zrc zpx :=
 fn_ok z13g (h := .no) Try.func24 (z0d [] (by kernel_rfl) trivial) (by kernel_rfl) z10k (fun x => by kernel_rfl)
def z1df : Env := ⟨[], [], []⟩
theorem z1ah : EnvsOK Try.prog z1df := ⟨z0i _, z0e _, z0f _⟩
def zvn : Shp := ⟨1, 0, [(0, .d (.sl (.int .i64)))], []⟩
def z10j : XS := .one .ret zvn.xe
theorem z18j : z10j.OK := XS.one_ok (z0a zvn)
def zpd (t0 : List Int) : Option (((List Int))) :=
 nilK (List.length t0) fun q =>
 bif q then
 some []
 else
 appG (List.length ([] : List Int)) (List.length t0) 8 fun _ =>
 some (([] : List Int) ++ t0)
def zzy : Sig := ⟨43, [.d (.sl (.int .i64))], [], 0, z10j⟩
def zy9 (x : (List Int)) : Option (((List Int))) := zpd x
theorem z1cg : FnOK Try.prog zzy zy9 :=
 fn_ok z1ah (h := .no) Try.func43 (z0d [] (by kernel_rfl) trivial) (by kernel_rfl) z18j (fun x => by kernel_rfl)
def zz8 : Env := ⟨[(entQ zzy zy9)], [], []⟩
theorem zwz : EnvsOK Try.prog zz8 := ⟨z0c (z0h z1cg) (z0i _), z0e _, z0f _⟩
def zk1 : Shp := ⟨1, 1, [(0, .tu [])], [.var 71 (.ag [.wn 1 c1, .d c2, .d (.int .i64), .d c3, .d (.int .i64), .d .bool]), .row 86 c1]⟩
def zlm : XS := .one .ret zk1.xe
theorem zu5 : zlm.OK := XS.one_ok (z0a zk1)
def z9t (after : Int) (c : T1) (d : List T0) (d2 : Int) (d3 : T1) (d4 : Int) (d5 : Bool) (d6 : List (List Int)) : Option (((List T0) × Int × T1 × Int × Bool × (List (List Int)))) :=
 (zpd c.1).bind fun r =>
 bif Nat.beq (List.length d6) (List.length d6) then
 some (d, maxI after (-1), (r, c.2.1, c.2.2), d4, d5, d6)
 else none
def zln : Sig := ⟨23, [.pt 0 r0 [], .d (.int .i64), .d c3], [.var 71 (.ag [.wn 1 c1, .d c2, .d (.int .i64), .d c3, .d (.int .i64), .d .bool]), .row 86 c1], 1, zlm⟩
def zkv (x : Int × T1 × (List T0) × Int × T1 × Int × Bool × (List (List Int))) : Option (((List T0) × Int × T1 × Int × Bool × (List (List Int)))) := z9t x.1 x.2.1 x.2.2.1 x.2.2.2.1 x.2.2.2.2.1 x.2.2.2.2.2.1 x.2.2.2.2.2.2.1 x.2.2.2.2.2.2.2
theorem zxm : FnOK Try.prog zln zkv :=
 fn_ok zwz (h := .no) Try.func23 (z0d [] (by kernel_rfl) trivial) (by kernel_rfl) zu5 (fun x => by kernel_rfl)
def z12w : Env := ⟨[], [], []⟩
theorem zz9 : EnvsOK Try.prog z12w := ⟨z0i _, z0e _, z0f _⟩
def zmd : Shp := ⟨1, 1, [(0, .d .bool)], [.var 71 (.ag [.wn 1 c1, .d c2, .d (.int .i64), .d c3, .d (.int .i64), .d .bool]), .row 86 c1]⟩
def zoi : XS := .one .ret zmd.xe
theorem zxc : zoi.OK := XS.one_ok (z0a zmd)
def z6r (d : List T0) (d2 : Int) (d3 : T1) (d4 : Int) (d5 : Bool) (d6 : List (List Int)) : Option ((Bool × (List T0) × Int × T1 × Int × Bool × (List (List Int)))) :=
 bif !d5 then
 bif Nat.beq (List.length d6) (List.length d6) then
 some (false, d, d2, d3, d4, d5, d6)
 else none
 else
 bif Nat.beq (List.length d6) (List.length d6) then
 some (true, d, d2, d3, d4, false, d6)
 else none
def zpc : Sig := ⟨24, [.pt 0 r0 []], [.var 71 (.ag [.wn 1 c1, .d c2, .d (.int .i64), .d c3, .d (.int .i64), .d .bool]), .row 86 c1], 1, zoi⟩
def znf (x : (List T0) × Int × T1 × Int × Bool × (List (List Int))) : Option ((Bool × (List T0) × Int × T1 × Int × Bool × (List (List Int)))) := z6r x.1 x.2.1 x.2.2.1 x.2.2.2.1 x.2.2.2.2.1 x.2.2.2.2.2
theorem z11c : FnOK Try.prog zpc znf :=
 fn_ok zz9 (h := .no) Try.func24 (z0d [] (by kernel_rfl) trivial) (by kernel_rfl) zxc (fun x => by kernel_rfl)
def zzl : Env := ⟨[(entQ z13r z11b), (entQ z16o z13t), (entQ z15g z13z)], [(entP zqn zoj), (entP zn3 zlg), (entP zkm zi9), (entP zlv zku), (entP zy0 zwc), (entP zfy zfi), (entP znx zmh), (entP zrc zpx), (entP zd9 zcf), (entP zfp zfc), (entP zn1 zlc), (entP zln zkv), (entP zfa zeb), (entP zpc znf), (entP zd3 zcg), (entP zfq zf9)], []⟩
theorem zxf : EnvsOK Try.prog zzl := ⟨z0c (z0h z1dh) (z0c (z0h z1ft) (z0c (z0h z1fp) (z0i _))), z0k (z0o zyq) (z0k (z0o ztj) (z0k (z0o zwg) (z0k (z0o zxe) (z0k (z0o z19t) (z0k (z0o zr1) (z0k (z0o zyw) (z0k (z0o z14j) (z0k (z0o zjz) (z0k (z0o zqe) (z0k (z0o ztq) (z0k (z0o zxm) (z0k (z0o zm0) (z0k (z0o z11c) (z0k (z0o zit) (z0k (z0o zqc) (z0e _)))))))))))))))), z0f _⟩
def zf7 : Shp := ⟨109, 0, [(0, .d c5), (1, .d c5), (7, .d .bool), (8, .d (.int .i64)), (9, .pt 0 r7 []), (10, .c .nilp)], [.var 38 (.d c3)]⟩
def zfk : Shp := ⟨109, 0, [(0, .d c5), (1, .d c5), (7, .d .bool), (8, .d (.int .i64)), (9, .pt 0 r7 []), (10, .pt 1 r0 [])], [.var 38 (.d c3), .var 71 (.ag [.wn 2 c1, .d c2, .d (.int .i64), .d c3, .d (.int .i64), .d .bool]), .row 86 c1]⟩
def zbi : XS := .or .normal zf7.xe (.one .normal zfk.xe)
theorem zpo : zbi.OK := XS.or_ok (z0a zf7) (XS.one_ok (z0a zfk))
def zdo : Shp := ⟨109, 0, [(0, .d c5), (1, .d c5), (7, .d .bool), (8, .d (.int .i64)), (9, .pt 0 r7 []), (10, .c .nilp), (12, .c .nilp), (14, .d (.int .i64))], [.var 38 (.d c3)]⟩
def zdp : Shp := ⟨109, 0, [(0, .d c5), (1, .d c5), (7, .d .bool), (8, .d (.int .i64)), (9, .pt 0 r7 []), (10, .c .nilp), (12, .pt 1 r6 []), (14, .d (.int .i64))], [.var 38 (.d c3), .var 75 (.ag [.c .nilp, .d c4, .d (.sl (.int .u8)), .d (.int .i64), .d .bool])]⟩
def zaa : XS := .or .normal zdo.xe (.one .normal zdp.xe)
theorem zo7 : zaa.OK := XS.or_ok (z0a zdo) (XS.one_ok (z0a zdp))
def zel : Shp := ⟨109, 0, [(0, .d c5), (1, .d c5), (7, .d .bool), (8, .d (.int .i64)), (9, .pt 0 r7 []), (10, .c .nilp)], [.var 38 (.d c3)]⟩
def za2 : Shp := ⟨109, 0, [(0, .d c5), (9, .pt 0 r7 []), (10, .c .nilp), (14, .d (.int .i64)), (15, .wn 1 .str)], [.var 38 (.d c3), .row 9 .str]⟩
def z6j : XS := .one .normal za2.xe
theorem zgm : z6j.OK := XS.one_ok (z0a za2)
def zac : Shp := ⟨109, 0, [(0, .d c5), (1, .d c5), (7, .d .bool), (9, .pt 0 r7 []), (10, .c .nilp), (12, .c .nilp), (15, .wn 1 .str)], [.var 38 (.d c3), .row 9 .str]⟩
def z9o : Shp := ⟨109, 0, [(0, .d c5), (9, .pt 0 r7 []), (10, .c .nilp), (14, .d (.int .i64)), (15, .wn 1 .str)], [.var 38 (.d c3), .row 9 .str]⟩
def z5q : XS := .one .normal z9o.xe
theorem zfl : z5q.OK := XS.one_ok (z0a z9o)
def z9x : Shp := ⟨109, 0, [(0, .d c5), (9, .pt 0 r7 []), (10, .c .nilp), (14, .d (.int .i64)), (15, .wn 1 .str)], [.var 38 (.d c3), .row 9 .str]⟩
def z7e : Shp := ⟨109, 0, [(0, .d c5), (14, .d (.int .i64)), (15, .wn 0 .str), (17, .d c5), (18, .d (.int .i64))], [.row 9 .str]⟩
def z3z : XS := .one .normal z7e.xe
theorem zcu : z3z.OK := XS.one_ok (z0a z7e)
def z7o : Shp := ⟨109, 0, [(0, .d c5), (10, .c .nilp), (14, .d (.int .i64)), (15, .wn 0 .str)], [.row 9 .str]⟩
def z9d : Shp := ⟨109, 0, [(0, .d c5), (9, .pt 0 r7 []), (10, .c .nilp), (14, .d (.int .i64)), (15, .wn 1 .str)], [.var 38 (.d c3), .row 9 .str]⟩
def z5o : XS := .one .normal z9d.xe
theorem zfn : z5o.OK := XS.one_ok (z0a z9d)
def z9y : Shp := ⟨109, 0, [(0, .d c5), (1, .d c5), (7, .d .bool), (9, .pt 0 r7 []), (10, .c .nilp), (12, .pt 1 r6 []), (15, .wn 2 .str)], [.var 38 (.d c3), .var 75 (.ag [.c .nilp, .d c4, .d (.sl (.int .u8)), .d (.int .i64), .d .bool]), .row 9 .str]⟩
def zcj : Shp := ⟨109, 0, [(0, .d c5), (1, .d c5), (7, .d .bool), (8, .d (.int .i64)), (9, .pt 0 r7 []), (10, .pt 1 r0 []), (12, .c .nilp), (14, .d (.int .i64))], [.var 38 (.d c3), .var 71 (.ag [.wn 2 c1, .d c2, .d (.int .i64), .d c3, .d (.int .i64), .d .bool]), .row 86 c1]⟩
def zcl : Shp := ⟨109, 0, [(0, .d c5), (1, .d c5), (7, .d .bool), (8, .d (.int .i64)), (9, .pt 0 r7 []), (10, .pt 1 r0 []), (12, .pt 2 r6 []), (14, .d (.int .i64))], [.var 38 (.d c3), .var 71 (.ag [.wn 3 c1, .d c2, .d (.int .i64), .d c3, .d (.int .i64), .d .bool]), .var 75 (.ag [.pt 1 r0 [], .d c4, .d (.sl (.int .u8)), .d (.int .i64), .d .bool]), .row 86 c1]⟩
def z9g : XS := .or .normal zcj.xe (.one .normal zcl.xe)
theorem zma : z9g.OK := XS.or_ok (z0a zcj) (XS.one_ok (z0a zcl))
def z9c : Shp := ⟨109, 0, [(0, .d c5), (9, .pt 0 r7 []), (10, .pt 1 r0 []), (14, .d (.int .i64)), (15, .wn 2 .str)], [.var 38 (.d c3), .var 71 (.ag [.wn 3 c1, .d c2, .d (.int .i64), .d c3, .d (.int .i64), .d .bool]), .row 9 .str, .row 86 c1]⟩
def z5s : XS := .one .normal z9c.xe
theorem zfm : z5s.OK := XS.one_ok (z0a z9c)
def z9w : Shp := ⟨109, 0, [(0, .d c5), (1, .d c5), (7, .d .bool), (9, .pt 0 r7 []), (10, .pt 1 r0 []), (12, .c .nilp), (15, .wn 2 .str)], [.var 38 (.d c3), .var 71 (.ag [.wn 3 c1, .d c2, .d (.int .i64), .d c3, .d (.int .i64), .d .bool]), .row 9 .str, .row 86 c1]⟩
def z8t : Shp := ⟨109, 0, [(0, .d c5), (9, .pt 0 r7 []), (10, .pt 1 r0 []), (14, .d (.int .i64)), (15, .wn 2 .str)], [.var 38 (.d c3), .var 71 (.ag [.wn 3 c1, .d c2, .d (.int .i64), .d c3, .d (.int .i64), .d .bool]), .row 9 .str, .row 86 c1]⟩
def z4u : XS := .one .normal z8t.xe
theorem zes : z4u.OK := XS.one_ok (z0a z8t)
def z6n : Shp := ⟨109, 0, [(0, .d c5), (14, .d (.int .i64)), (15, .wn 0 .str), (17, .d c5), (18, .d (.int .i64))], [.row 9 .str]⟩
def z3k : XS := .one .normal z6n.xe
theorem zc7 : z3k.OK := XS.one_ok (z0a z6n)
def z9q : Shp := ⟨109, 0, [(0, .d c5), (9, .pt 0 r7 []), (10, .pt 1 r0 []), (14, .d (.int .i64)), (15, .wn 2 .str)], [.var 38 (.d c3), .var 71 (.ag [.wn 3 c1, .d c2, .d (.int .i64), .d c3, .d (.int .i64), .d .bool]), .row 9 .str, .row 86 c1]⟩
def z5p : XS := .one .normal z9q.xe
theorem zfo : z5p.OK := XS.one_ok (z0a z9q)
def zkx : Shp := ⟨1, 0, [(0, .d .bool)], []⟩
def zo2 : XS := .one .ret zkx.xe
theorem zw5 : zo2.OK := XS.one_ok (z0a zkx)
def zhd (first : List (List Int)) (t1 : List (List Int)) (cut : T5) : Option ((Bool)) :=
 (zh6).bind fun r =>
 bif !r then
 (zh6).bind fun r2 =>
 some r2
 else
 (zut 6 ([(0, first, 0, ([], 0, 0)), (0, t1, 0, cut.2.2)] : List T4)).bind fun r3 =>
 bif !r3 then
 (zh6).bind fun r4 =>
 some r4
 else
 (show Option (((List (List Int)) × (List (List Int)) × Bool × Int × T1) ⊕ ((List (List Int)) × (List (List Int)) × Bool × Int × T1 × (List T0) × Int × T1 × Int × Bool × (List (List Int)))) from
 (zfg 120).bind fun r5 =>
 Sum.elim (fun y =>
 some (.inl (first, t1, cut.1, cut.2.1, cut.2.2))) (fun y2 =>
 bif Nat.beq (List.length y2.2.2.2.2.2.2) (List.length y2.2.2.2.2.2.2) then
 some (.inr (first, t1, cut.1, cut.2.1, cut.2.2, y2.2.1, y2.2.2.1, y2.2.2.2.1, y2.2.2.2.2.1, y2.2.2.2.2.2.1, y2.2.2.2.2.2.2))
 else none) r5).bind fun j =>
 Sum.elim (fun y3 =>
 (show Option (((List (List Int)) × (List (List Int)) × Bool × Int × Int × T1) ⊕ ((List (List Int)) × (List (List Int)) × Bool × Int × Int × T1 × T2 × (List Int) × Int × Bool)) from
 (zc8).bind fun r6 =>
 Sum.elim (fun y5 =>
 some (.inl (y3.1, y3.2.1, y3.2.2.1, y3.2.2.2.1, y5.2, y3.2.2.2.2))) (fun y6 =>
 some (.inr (y3.1, y3.2.1, y3.2.2.1, y3.2.2.2.1, y6.1, y3.2.2.2.2, y6.2.1, y6.2.2.1, y6.2.2.2.1, y6.2.2.2.2.1))) r6).bind fun j2 =>
 Sum.elim (fun y7 =>
 bif neI y7.2.2.2.2.1 0 then
 some false
 else
 (z8s y7.1).bind fun r7 =>
 bif neI r7 0 then
 some false
 else
 (zg9 (W64 (Int.tmod (WU64 (y7.2.2.2.1)) 60)) y7.2.2.2.2.2).bind fun r8 =>
 (z0s y7.1).bind fun r9 =>
 (z0s y7.2.1).bind fun r10 =>
 bif Nat.beq (List.length r9) (List.length r9) then
 winK r10 0 (List.length r10) fun w =>
 appG (List.length r9) (List.length w) 16 fun _ =>
 (show Option (((List (List Int)) × Int × T1 × (List (List Int)))) from
 bif y7.2.2.1 then
 (zbv y7.2.1).bind fun r11 =>
 (z0s y7.2.1).bind fun r12 =>
 bif Nat.beq (List.length r12) (List.length r12) then
 some (y7.1, r11, y7.2.2.2.2.2, r12)
 else none
 else
 (z8s y7.2.1).bind fun r13 =>
 bif Nat.beq (List.length (r9 ++ w)) (List.length (r9 ++ w)) then
 some (y7.1, r13, y7.2.2.2.2.2, r9 ++ w)
 else none).bind fun j3 =>
 (show Option (((List (List Int)) × Int × T1 × (List (List Int)))) from
 bif eqI j3.2.1 5 then
 (z0s j3.1).bind fun r14 =>
 bif Nat.beq (List.length r14) (List.length r14) then
 some (j3.1, j3.2.1, j3.2.2.1, r14)
 else none
 else
 bif Nat.beq (List.length j3.2.2.2) (List.length j3.2.2.2) then
 some (j3.1, j3.2.1, j3.2.2.1, j3.2.2.2)
 else none).bind fun j4 =>
 (zha j4.2.2.1).bind fun r15 =>
 (zmw).bind fun r16 =>
 (show Option (((List (List Int)) × Int × (List (List Int)) × Int × (List (List Int)))) from
 (zc8).bind fun r17 =>
 Sum.elim (fun y9 =>
 bif Nat.beq (List.length j4.2.2.2) (List.length j4.2.2.2) then
 some (j4.1, j4.2.1, y9.1, y9.2, j4.2.2.2)
 else none) (fun y10 =>
 winK y10.2.2.2.2.2 0 (List.length y10.2.2.2.2.2) fun w2 =>
 bif Nat.beq (List.length j4.2.2.2) (List.length j4.2.2.2) then
 some (j4.1, j4.2.1, w2, y10.1, j4.2.2.2)
 else none) r17).bind fun j5 =>
 bif eqI j5.2.2.2.1 0 then
 winK j5.2.2.2.2 0 (List.length j5.2.2.2.2) fun w3 =>
 (z4r j5.2.2.1 w3).bind fun r18 =>
 bif r18 then
 some true
 else
 bif eqI j5.2.1 6 then
 (z0s j5.1).bind fun r19 =>
 winK r19 0 (List.length r19) fun w4 =>
 (z4r j5.2.2.1 w4).bind fun r20 =>
 some r20
 else
 some false
 else
 some false
 else none) (fun y8 =>
 bif neI y8.2.2.2.2.1 0 then
 some false
 else
 (zb4 y8.1 y8.2.2.2.2.2.2.1 y8.2.2.2.2.2.2.2.1 y8.2.2.2.2.2.2.2.2.1 y8.2.2.2.2.2.2.2.2.2).bind fun r21 =>
 bif neI r21.1 0 then
 some false
 else
 (zg9 (W64 (Int.tmod (WU64 (y8.2.2.2.1)) 60)) y8.2.2.2.2.2.1).bind fun r22 =>
 (z0s y8.1).bind fun r23 =>
 (z0s y8.2.1).bind fun r24 =>
 bif Nat.beq (List.length r23) (List.length r23) then
 winK r24 0 (List.length r24) fun w5 =>
 appG (List.length r23) (List.length w5) 16 fun _ =>
 (show Option (((List (List Int)) × Int × T1 × (List (List Int)))) from
 bif y8.2.2.1 then
 (zhf y8.2.1 r21.2.1 r21.2.2.1 r21.2.2.2.1 r21.2.2.2.2).bind fun r25 =>
 (z0s y8.2.1).bind fun r26 =>
 bif Nat.beq (List.length r26) (List.length r26) then
 some (y8.1, r25.1, y8.2.2.2.2.2.1, r26)
 else none
 else
 (zb4 y8.2.1 r21.2.1 r21.2.2.1 r21.2.2.2.1 r21.2.2.2.2).bind fun r27 =>
 bif Nat.beq (List.length (r23 ++ w5)) (List.length (r23 ++ w5)) then
 some (y8.1, r27.1, y8.2.2.2.2.2.1, r23 ++ w5)
 else none).bind fun j6 =>
 (show Option (((List (List Int)) × Int × T1 × (List (List Int)))) from
 bif eqI j6.2.1 5 then
 (z0s j6.1).bind fun r28 =>
 bif Nat.beq (List.length r28) (List.length r28) then
 some (j6.1, j6.2.1, j6.2.2.1, r28)
 else none
 else
 bif Nat.beq (List.length j6.2.2.2) (List.length j6.2.2.2) then
 some (j6.1, j6.2.1, j6.2.2.1, j6.2.2.2)
 else none).bind fun j7 =>
 (zha j7.2.2.1).bind fun r29 =>
 (zmw).bind fun r30 =>
 (show Option (((List (List Int)) × Int × (List (List Int)) × Int × (List (List Int)))) from
 (zc8).bind fun r31 =>
 Sum.elim (fun y11 =>
 bif Nat.beq (List.length j7.2.2.2) (List.length j7.2.2.2) then
 some (j7.1, j7.2.1, y11.1, y11.2, j7.2.2.2)
 else none) (fun y12 =>
 winK y12.2.2.2.2.2 0 (List.length y12.2.2.2.2.2) fun w6 =>
 bif Nat.beq (List.length j7.2.2.2) (List.length j7.2.2.2) then
 some (j7.1, j7.2.1, w6, y12.1, j7.2.2.2)
 else none) r31).bind fun j8 =>
 bif eqI j8.2.2.2.1 0 then
 winK j8.2.2.2.2 0 (List.length j8.2.2.2.2) fun w7 =>
 (z4r j8.2.2.1 w7).bind fun r32 =>
 bif r32 then
 some true
 else
 bif eqI j8.2.1 6 then
 (z0s j8.1).bind fun r33 =>
 winK r33 0 (List.length r33) fun w8 =>
 (z4r j8.2.2.1 w8).bind fun r34 =>
 some r34
 else
 some false
 else
 some false
 else none) j2) (fun y4 =>
 (show Option (((List (List Int)) × (List (List Int)) × Bool × Int × Int × T1 × (List T0) × Int × T1 × Int × Bool × (List (List Int))) ⊕ ((List (List Int)) × (List (List Int)) × Bool × Int × Int × T1 × (List T0) × Int × T1 × Int × Bool × T2 × (List Int) × Int × Bool × (List (List Int)))) from
 bif Nat.beq (List.length y4.2.2.2.2.2.2.2.2.2.2) (List.length y4.2.2.2.2.2.2.2.2.2.2) then
 (z1y y4.2.2.2.2.2.1 y4.2.2.2.2.2.2.1 y4.2.2.2.2.2.2.2.1 y4.2.2.2.2.2.2.2.2.1 y4.2.2.2.2.2.2.2.2.2.1 y4.2.2.2.2.2.2.2.2.2.2).bind fun r35 =>
 Sum.elim (fun y13 =>
 bif Nat.beq (List.length y13.2.2.2.2.2.2.2) (List.length y13.2.2.2.2.2.2.2) then
 some (.inl (y4.1, y4.2.1, y4.2.2.1, y4.2.2.2.1, y13.2.1, y4.2.2.2.2.1, y13.2.2.1, y13.2.2.2.1, y13.2.2.2.2.1, y13.2.2.2.2.2.1, y13.2.2.2.2.2.2.1, y13.2.2.2.2.2.2.2))
 else none) (fun y14 =>
 bif Nat.beq (List.length y14.2.2.2.2.2.2.2.2.2.2.2) (List.length y14.2.2.2.2.2.2.2.2.2.2.2) then
 some (.inr (y4.1, y4.2.1, y4.2.2.1, y4.2.2.2.1, y14.1, y4.2.2.2.2.1, y14.2.1, y14.2.2.1, y14.2.2.2.1, y14.2.2.2.2.1, y14.2.2.2.2.2.1, y14.2.2.2.2.2.2.1, y14.2.2.2.2.2.2.2.1, y14.2.2.2.2.2.2.2.2.1, y14.2.2.2.2.2.2.2.2.2.1, y14.2.2.2.2.2.2.2.2.2.2.2))
 else none) r35
 else none).bind fun j9 =>
 Sum.elim (fun y15 =>
 bif neI y15.2.2.2.2.1 0 then
 some false
 else
 (z8s y15.1).bind fun r36 =>
 bif neI r36 0 then
 some false
 else
 bif Nat.beq (List.length y15.2.2.2.2.2.2.2.2.2.2.2) (List.length y15.2.2.2.2.2.2.2.2.2.2.2) then
 (z9t (W64 (Int.tmod (WU64 (y15.2.2.2.1)) 60)) y15.2.2.2.2.2.1 y15.2.2.2.2.2.2.1 y15.2.2.2.2.2.2.2.1 y15.2.2.2.2.2.2.2.2.1 y15.2.2.2.2.2.2.2.2.2.1 y15.2.2.2.2.2.2.2.2.2.2.1 y15.2.2.2.2.2.2.2.2.2.2.2).bind fun r37 =>
 (z0s y15.1).bind fun r38 =>
 (z0s y15.2.1).bind fun r39 =>
 bif Nat.beq (List.length r38) (List.length r38) then
 winK r39 0 (List.length r39) fun w9 =>
 appG (List.length r38) (List.length w9) 16 fun _ =>
 (show Option (((List (List Int)) × Int × T1 × (List T0) × Int × T1 × Int × Bool × (List (List Int)) × (List (List Int)))) from
 bif y15.2.2.1 then
 (zbv y15.2.1).bind fun r40 =>
 (z0s y15.2.1).bind fun r41 =>
 bif Nat.beq (List.length r41) (List.length r41) then
 bif Nat.beq (List.length r37.2.2.2.2.2) (List.length r37.2.2.2.2.2) then
 some (y15.1, r40, y15.2.2.2.2.2.1, r37.1, r37.2.1, r37.2.2.1, r37.2.2.2.1, r37.2.2.2.2.1, r41, r37.2.2.2.2.2)
 else none
 else none
 else
 (z8s y15.2.1).bind fun r42 =>
 bif Nat.beq (List.length (r38 ++ w9)) (List.length (r38 ++ w9)) then
 bif Nat.beq (List.length r37.2.2.2.2.2) (List.length r37.2.2.2.2.2) then
 some (y15.1, r42, y15.2.2.2.2.2.1, r37.1, r37.2.1, r37.2.2.1, r37.2.2.2.1, r37.2.2.2.2.1, r38 ++ w9, r37.2.2.2.2.2)
 else none
 else none).bind fun j10 =>
 (show Option (((List (List Int)) × Int × T1 × (List T0) × Int × T1 × Int × Bool × (List (List Int)) × (List (List Int)))) from
 bif eqI j10.2.1 5 then
 (z0s j10.1).bind fun r43 =>
 bif Nat.beq (List.length r43) (List.length r43) then
 bif Nat.beq (List.length j10.2.2.2.2.2.2.2.2.2) (List.length j10.2.2.2.2.2.2.2.2.2) then
 some (j10.1, j10.2.1, j10.2.2.1, j10.2.2.2.1, j10.2.2.2.2.1, j10.2.2.2.2.2.1, j10.2.2.2.2.2.2.1, j10.2.2.2.2.2.2.2.1, r43, j10.2.2.2.2.2.2.2.2.2)
 else none
 else none
 else
 bif Nat.beq (List.length j10.2.2.2.2.2.2.2.2.1) (List.length j10.2.2.2.2.2.2.2.2.1) then
 bif Nat.beq (List.length j10.2.2.2.2.2.2.2.2.2) (List.length j10.2.2.2.2.2.2.2.2.2) then
 some (j10.1, j10.2.1, j10.2.2.1, j10.2.2.2.1, j10.2.2.2.2.1, j10.2.2.2.2.2.1, j10.2.2.2.2.2.2.1, j10.2.2.2.2.2.2.2.1, j10.2.2.2.2.2.2.2.2.1, j10.2.2.2.2.2.2.2.2.2)
 else none
 else none).bind fun j11 =>
 bif Nat.beq (List.length j11.2.2.2.2.2.2.2.2.2) (List.length j11.2.2.2.2.2.2.2.2.2) then
 (z2x j11.2.2.1 j11.2.2.2.1 j11.2.2.2.2.1 j11.2.2.2.2.2.1 j11.2.2.2.2.2.2.1 j11.2.2.2.2.2.2.2.1 j11.2.2.2.2.2.2.2.2.2).bind fun r44 =>
 bif Nat.beq (List.length r44.2.2.2.2.2) (List.length r44.2.2.2.2.2) then
 (z6r r44.1 r44.2.1 r44.2.2.1 r44.2.2.2.1 r44.2.2.2.2.1 r44.2.2.2.2.2).bind fun r45 =>
 (show Option (((List (List Int)) × Int × (List (List Int)) × Int × (List (List Int)))) from
 bif Nat.beq (List.length r45.2.2.2.2.2.2) (List.length r45.2.2.2.2.2.2) then
 (z1y r45.2.1 r45.2.2.1 r45.2.2.2.1 r45.2.2.2.2.1 r45.2.2.2.2.2.1 r45.2.2.2.2.2.2).bind fun r46 =>
 Sum.elim (fun y17 =>
 bif Nat.beq (List.length j11.2.2.2.2.2.2.2.2.1) (List.length j11.2.2.2.2.2.2.2.2.1) then
 some (j11.1, j11.2.1, y17.1, y17.2.1, j11.2.2.2.2.2.2.2.2.1)
 else none) (fun y18 =>
 winK y18.2.2.2.2.2.2.2.2.2.2.1 0 (List.length y18.2.2.2.2.2.2.2.2.2.2.1) fun w10 =>
 bif Nat.beq (List.length j11.2.2.2.2.2.2.2.2.1) (List.length j11.2.2.2.2.2.2.2.2.1) then
 some (j11.1, j11.2.1, w10, y18.1, j11.2.2.2.2.2.2.2.2.1)
 else none) r46
 else none).bind fun j12 =>
 bif eqI j12.2.2.2.1 0 then
 winK j12.2.2.2.2 0 (List.length j12.2.2.2.2) fun w11 =>
 (z4r j12.2.2.1 w11).bind fun r47 =>
 bif r47 then
 some true
 else
 bif eqI j12.2.1 6 then
 (z0s j12.1).bind fun r48 =>
 winK r48 0 (List.length r48) fun w12 =>
 (z4r j12.2.2.1 w12).bind fun r49 =>
 some r49
 else
 some false
 else
 some false
 else none
 else none
 else none
 else none) (fun y16 =>
 bif neI y16.2.2.2.2.1 0 then
 some false
 else
 bif Nat.beq (List.length y16.2.2.2.2.2.2.2.2.2.2.2.2.2.2.2) (List.length y16.2.2.2.2.2.2.2.2.2.2.2.2.2.2.2) then
 (z1l y16.1 y16.2.2.2.2.2.2.2.2.2.2.2.1 y16.2.2.2.2.2.2.2.2.2.2.2.2.1 y16.2.2.2.2.2.2.2.2.2.2.2.2.2.1 y16.2.2.2.2.2.2.2.2.2.2.2.2.2.2.1 y16.2.2.2.2.2.2.1 y16.2.2.2.2.2.2.2.1 y16.2.2.2.2.2.2.2.2.1 y16.2.2.2.2.2.2.2.2.2.1 y16.2.2.2.2.2.2.2.2.2.2.1 y16.2.2.2.2.2.2.2.2.2.2.2.2.2.2.2).bind fun r50 =>
 bif neI r50.1 0 then
 some false
 else
 bif Nat.beq (List.length r50.2.2.2.2.2.2.2.2.2.2) (List.length r50.2.2.2.2.2.2.2.2.2.2) then
 (z9t (W64 (Int.tmod (WU64 (y16.2.2.2.1)) 60)) y16.2.2.2.2.2.1 r50.2.2.2.2.2.1 r50.2.2.2.2.2.2.1 r50.2.2.2.2.2.2.2.1 r50.2.2.2.2.2.2.2.2.1 r50.2.2.2.2.2.2.2.2.2.1 r50.2.2.2.2.2.2.2.2.2.2).bind fun r51 =>
 (z0s y16.1).bind fun r52 =>
 (z0s y16.2.1).bind fun r53 =>
 bif Nat.beq (List.length r52) (List.length r52) then
 winK r53 0 (List.length r53) fun w13 =>
 appG (List.length r52) (List.length w13) 16 fun _ =>
 (show Option (((List (List Int)) × Int × T1 × (List T0) × Int × T1 × Int × Bool × (List (List Int)) × (List (List Int)))) from
 bif y16.2.2.1 then
 bif Nat.beq (List.length r51.2.2.2.2.2) (List.length r51.2.2.2.2.2) then
 (z6a y16.2.1 r50.2.1 r50.2.2.1 r50.2.2.2.1 r50.2.2.2.2.1 r51.1 r51.2.1 r51.2.2.1 r51.2.2.2.1 r51.2.2.2.2.1 r51.2.2.2.2.2).bind fun r54 =>
 (z0s y16.2.1).bind fun r55 =>
 bif Nat.beq (List.length r55) (List.length r55) then
 bif Nat.beq (List.length r54.2.2.2.2.2.2.2.2.2.2) (List.length r54.2.2.2.2.2.2.2.2.2.2) then
 some (y16.1, r54.1, y16.2.2.2.2.2.1, r54.2.2.2.2.2.1, r54.2.2.2.2.2.2.1, r54.2.2.2.2.2.2.2.1, r54.2.2.2.2.2.2.2.2.1, r54.2.2.2.2.2.2.2.2.2.1, r55, r54.2.2.2.2.2.2.2.2.2.2)
 else none
 else none
 else none
 else
 bif Nat.beq (List.length r51.2.2.2.2.2) (List.length r51.2.2.2.2.2) then
 (z1l y16.2.1 r50.2.1 r50.2.2.1 r50.2.2.2.1 r50.2.2.2.2.1 r51.1 r51.2.1 r51.2.2.1 r51.2.2.2.1 r51.2.2.2.2.1 r51.2.2.2.2.2).bind fun r56 =>
 bif Nat.beq (List.length (r52 ++ w13)) (List.length (r52 ++ w13)) then
 bif Nat.beq (List.length r56.2.2.2.2.2.2.2.2.2.2) (List.length r56.2.2.2.2.2.2.2.2.2.2) then
 some (y16.1, r56.1, y16.2.2.2.2.2.1, r56.2.2.2.2.2.1, r56.2.2.2.2.2.2.1, r56.2.2.2.2.2.2.2.1, r56.2.2.2.2.2.2.2.2.1, r56.2.2.2.2.2.2.2.2.2.1, r52 ++ w13, r56.2.2.2.2.2.2.2.2.2.2)
 else none
 else none
 else none).bind fun j13 =>
 (show Option (((List (List Int)) × Int × T1 × (List T0) × Int × T1 × Int × Bool × (List (List Int)) × (List (List Int)))) from
 bif eqI j13.2.1 5 then
 (z0s j13.1).bind fun r57 =>
 bif Nat.beq (List.length r57) (List.length r57) then
 bif Nat.beq (List.length j13.2.2.2.2.2.2.2.2.2) (List.length j13.2.2.2.2.2.2.2.2.2) then
 some (j13.1, j13.2.1, j13.2.2.1, j13.2.2.2.1, j13.2.2.2.2.1, j13.2.2.2.2.2.1, j13.2.2.2.2.2.2.1, j13.2.2.2.2.2.2.2.1, r57, j13.2.2.2.2.2.2.2.2.2)
 else none
 else none
 else
 bif Nat.beq (List.length j13.2.2.2.2.2.2.2.2.1) (List.length j13.2.2.2.2.2.2.2.2.1) then
 bif Nat.beq (List.length j13.2.2.2.2.2.2.2.2.2) (List.length j13.2.2.2.2.2.2.2.2.2) then
 some (j13.1, j13.2.1, j13.2.2.1, j13.2.2.2.1, j13.2.2.2.2.1, j13.2.2.2.2.2.1, j13.2.2.2.2.2.2.1, j13.2.2.2.2.2.2.2.1, j13.2.2.2.2.2.2.2.2.1, j13.2.2.2.2.2.2.2.2.2)
 else none
 else none).bind fun j14 =>
 bif Nat.beq (List.length j14.2.2.2.2.2.2.2.2.2) (List.length j14.2.2.2.2.2.2.2.2.2) then
 (z2x j14.2.2.1 j14.2.2.2.1 j14.2.2.2.2.1 j14.2.2.2.2.2.1 j14.2.2.2.2.2.2.1 j14.2.2.2.2.2.2.2.1 j14.2.2.2.2.2.2.2.2.2).bind fun r58 =>
 bif Nat.beq (List.length r58.2.2.2.2.2) (List.length r58.2.2.2.2.2) then
 (z6r r58.1 r58.2.1 r58.2.2.1 r58.2.2.2.1 r58.2.2.2.2.1 r58.2.2.2.2.2).bind fun r59 =>
 (show Option (((List (List Int)) × Int × (List (List Int)) × Int × (List (List Int)))) from
 bif Nat.beq (List.length r59.2.2.2.2.2.2) (List.length r59.2.2.2.2.2.2) then
 (z1y r59.2.1 r59.2.2.1 r59.2.2.2.1 r59.2.2.2.2.1 r59.2.2.2.2.2.1 r59.2.2.2.2.2.2).bind fun r60 =>
 Sum.elim (fun y19 =>
 bif Nat.beq (List.length j14.2.2.2.2.2.2.2.2.1) (List.length j14.2.2.2.2.2.2.2.2.1) then
 some (j14.1, j14.2.1, y19.1, y19.2.1, j14.2.2.2.2.2.2.2.2.1)
 else none) (fun y20 =>
 winK y20.2.2.2.2.2.2.2.2.2.2.1 0 (List.length y20.2.2.2.2.2.2.2.2.2.2.1) fun w14 =>
 bif Nat.beq (List.length j14.2.2.2.2.2.2.2.2.1) (List.length j14.2.2.2.2.2.2.2.2.1) then
 some (j14.1, j14.2.1, w14, y20.1, j14.2.2.2.2.2.2.2.2.1)
 else none) r60
 else none).bind fun j15 =>
 bif eqI j15.2.2.2.1 0 then
 winK j15.2.2.2.2 0 (List.length j15.2.2.2.2) fun w15 =>
 (z4r j15.2.2.1 w15).bind fun r61 =>
 bif r61 then
 some true
 else
 bif eqI j15.2.1 6 then
 (z0s j15.1).bind fun r62 =>
 winK r62 0 (List.length r62) fun w16 =>
 (z4r j15.2.2.1 w16).bind fun r63 =>
 some r63
 else
 some false
 else
 some false
 else none
 else none
 else none
 else none
 else none) j9) j
def z10d : Sig := ⟨6, [.d c5, .d c5, .d c14], [], 0, zo2⟩
def zm4 (x : (List (List Int)) × (List (List Int)) × T5) : Option ((Bool)) := zhd x.1 x.2.1 x.2.2
theorem zyv : FnOK Try.prog z10d zm4 :=
 fn_ok zxf (h := (.two .no (.two .no (.two .no (.join (fun _ => zbi) .no (.join (altX zel.fit (fun _ => zaa) (fun _ => z9g)) .no (.two .no (.two .no (.two .no (.join (altX zac.fit (fun _ => z6j) (altX z9y.fit (fun _ => z5o) (altX z9w.fit (fun _ => z5s) (fun _ => z5p)))) .no (.join (altX z9x.fit (fun _ => z5q) (fun _ => z4u)) .no (.two .no (.two .no (.join (altX z7o.fit (fun _ => z3z) (fun _ => z3k)) .no .no)))))))))))))) Try.func6 (z0d [.xs (fun _ => zbi), .xs (altX zel.fit (fun _ => zaa) (fun _ => z9g)), .xs (altX zac.fit (fun _ => z6j) (altX z9y.fit (fun _ => z5o) (altX z9w.fit (fun _ => z5s) (fun _ => z5p)))), .xs (altX z9x.fit (fun _ => z5q) (fun _ => z4u)), .xs (altX z7o.fit (fun _ => z3z) (fun _ => z3k))] (by kernel_rfl) ⟨(z4b zpo), (znq (z4b zo7) (z4b zma)), (znq (z4b zgm) (znq (z4b zfn) (znq (z4b zfm) (z4b zfo)))), (znq (z4b zfl) (z4b zes)), (znq (z4b zcu) (z4b zc7)), trivial⟩) (by kernel_rfl) zw5 (fun x => by kernel_rfl)
end Go.Proofs.Ytpfjfldagldgnaa
set_option linter.unusedVariables false
set_option linter.unusedSimpArgs false
namespace Go.Proofs.Ytpfjfldagldgnaa
open Go.Tm Go.Ab
theorem zv9 {l : List (List Int)} (h : l.length ≤ 1000000) : z0s l = some l := by
 unfold z0s
 rw [z0m (by omega), show Nat.beq 0 (List.length ([] : List (List Int))) = true from rfl, cond_true]
 have := (zr8 z4c l (fun i (a : List (List Int)) => (l, ((l.length : Nat) : Int), (i : Int), a)) (fun a => a) (fun a x => a ++ [x]) (fun i a => a = l.take i) ?_ ?_ (a := []) (by simp))
 · obtain ⟨h1, h2⟩ := this
   rw [List.take_length] at h2
   rw [show (((0 : Nat) : Int)) = 0 from rfl, h2] at h1
   rw [h1]
   simp only [Option.bind_some, beq_self, cond_true]
 · intro a _
   show z6h l ((l.length : Nat) : Int) ((l.length : Nat) : Int) a = _
   unfold z6h
   rw [ltI_f (Int.lt_irrefl _), beq_self]; rfl
 · intro i a hi ha
   subst ha
   refine ⟨?_, (List.take_append_getElem hi)⟩
   show z6h l ((l.length : Nat) : Int) (i : Int) (l.take i) = _
   unfold z6h
   rw [ltI_t (by omega), zri hi]
   simp only [cond_true, Option.bind_some, beq_self]
   rw [z4n (by rw [List.length_take]; simp; omega), za7 (by omega)]
theorem zy2 {l : List (List Int)} (h : l.length ≤ 1000000) : z4r l l = some true := by
 unfold z4r
 rw [z0m (by omega), z0m (by omega), neI_f rfl, z0m (by omega)]
 simp only [cond_false]
 have := z1e7 z5l l (fun i => (l, l, ((l.length : Nat) : Int), (i : Int))) (fun _ => false) (.inr false) (.inl ()) ?_ ?_
 · rw [show (((0 : Nat) : Int)) = 0 from rfl] at this
   rw [this]
   simp
 · show z1w l l ((l.length : Nat) : Int) ((l.length : Nat) : Int) = _
   unfold z1w
   rw [ltI_f (Int.lt_irrefl _)]; rfl
 · intro i hi
   show z1w l l ((l.length : Nat) : Int) (i : Int) = _
   unfold z1w
   rw [ltI_t (by omega), zri hi]
   simp only [cond_true, Option.bind_some]
   rw [eqS_t rfl, za7 (by omega)]; rfl
theorem z1qz {a l : List (List Int)} (h : a.length ≤ 1000000) (h2 : l.length ≤ 1000000) : Ok (z4r a l) fun _ => True := by
 unfold z4r
 refine qs (qs ?_)
 refine z1rr (fun _ => z3n trivial) fun he => qs ?_
 have he' : a.length = l.length := by omega
 refine z17r (z1bu (Q := fun _ => True) l.length (fun i (_ : Unit) => (a, l, ((l.length : Nat) : Int), (i : Int))) (fun _ _ => True) () rfl trivial ?_ ?_) fun r _ => ?_
 · intro _ _
   show Ok (z1w a l ((l.length : Nat) : Int) ((l.length : Nat) : Int)) _
   unfold z1w
   rw [ltI_f (Int.lt_irrefl _)]
   exact zww (z3n (zh8 trivial))
 · intro i _ hi _
   show Ok (z1w a l ((l.length : Nat) : Int) (i : Int)) _
   unfold z1w
   rw [ltI_t (by omega)]
   refine z17m (qx hi (qx (by omega) ?_))
   refine ok_if (fun _ => z3n (zh8 trivial)) fun _ => z3n (z17q ⟨(), ?_, trivial⟩)
   rw [za7 (by omega)]
 · cases r with
   | inl _ => exact z1h0 (z3n trivial)
   | inr _ => exact z1h9 (z3n trivial)
theorem z1oi {l : List Int} (h : l.length ≤ 1000000) : zpd l = some l := by
 unfold zpd
 cases l with
 | nil =>
   show bothK _ _ = _
   unfold bothK
   rw [z4n (by simp)]
   simp
 | cons x l =>
   simp only [List.length_cons, nilK, cond_false]
   rw [z4n (by simp at h ⊢; omega)]; rfl
theorem z1n1 (L : List (Int × List Int)) (d2 : Int) (d3 : List Int × Int × Int) (d4 : Int) (off : Bool) (s : List (List Int)) : z6r L d2 d3 d4 off s = some (off, L, d2, d3, d4, false, s) := by
 unfold z6r
 simp only [beq_self, cond_true]
 cases off <;> rfl
theorem dv_on {k : Nat} {nn left : Int} {c : List Int × Int × Int} {off off' : Bool} {s : List (List Int)} {left' : Int} (hl : -1 ≤ left' ∧ left' ≤ 9223372036854775807) {c' : List Int × Int × Int} (hc : c'.1.length < 1000000) (h : Dv k ([], left, c, nn, off, s)) : Dv k ([], left', c', nn, off', s) :=
 ⟨⟨h.ok.d, h.ok.l, hl, hc, h.ok.n, h.ok.s⟩, h.l, h.n, h.k, h.bs, h.bw⟩
theorem z1mi {k : Nat} {left nn : Int} {c c2 : List Int × Int × Int} {off : Bool} {s : List (List Int)} {t : Int × Int × Int} {rs : List (List Int)} (hc : c.1.length < 1000000) (hd : Dv k ([], left, c2, nn, off, s)) (hlie : Lie s) (h : Fnd s t (lieS rs)) (hr : ∀ y, y ∈ rs → isB y ∧ y.length ≤ 65531) :
   ∃ left' d, z2x c [] left c2 nn off s = some ([], left', c2, nn, true, s) ∧ z6r [] left' c2 nn true s = some (true, [], left', c2, nn, false, s) ∧
     z1y [] left' c2 nn false s = some (.inr (0, [], left', c2, nn, false, t, lieS rs, (rs.length : Int), false, rs, d)) := by
 cases off with
 | false =>
   exact ⟨-1, s, z1g0 _ _ hc _ _ _ _ hlie.l, z1n1 _ _ _ _ _ _, z1aq (dv_on ⟨by decide, by decide⟩ hd.ok.c hd) hlie h hr⟩
 | true =>
   exact ⟨left, s, z1g0 _ _ hc _ _ _ _ hlie.l, z1n1 _ _ _ _ _ _, z1aq (dv_on hd.ok.left hd.ok.c hd) hlie h hr⟩
def OpOut (c : List Int × Int × Int) (first want : List (List Int)) (x : Option (Int × (Int × Int × Int) × List Int × Int × Bool × DevT)) : Prop :=
 ∃ e t0 dt cn br left' nn' off' s', x = some (e, t0, dt, cn, br, [], left', c, nn', off', s') ∧ (∃ k, Dv k ([], left', c, nn', off', s')) ∧ Lie s' ∧
   ∃ t' rs', Fnd s' t' (lieS rs') ∧ (∀ y, y ∈ rs' → isB y ∧ y.length ≤ 65531) ∧ ((e = 5 ∧ rs' = first) ∨ (e = 0 ∧ rs' = want) ∨ (e = 6 ∧ (rs' = first ∨ rs' = want)))
theorem z1fv {k : Nat} {left nn : Int} {c : List Int × Int × Int} {s : List (List Int)} {t t' : Int × Int × Int} {first want : List (List Int)} (hj : Jn k left c nn s t first) (hw : ∀ y, y ∈ want → isB y ∧ y.length ≤ 65531) {r : Int × JT × DevT} (ho : Out k left c nn s t t' first want r) : OpOut c first want (some (flatJ r)) := by
 rcases ho with ⟨rfl, h1⟩ | ⟨left', nn', s', rfl, h1, hj', h4⟩ | ⟨h0, jj, nn', s', rfl, h1, hd, hlie, hf⟩
 · exact ⟨_, _, _, _, _, _, _, _, _, rfl, ⟨k, hj.dv⟩, hj.lie, t, first, hj.st.fnd, hj.recs, .inl ⟨rfl, rfl⟩⟩
 · exact ⟨_, _, _, _, _, _, _, _, _, rfl, ⟨_, hj'.dv⟩, hj'.lie, t', want, hj'.st.fnd, hj'.recs, .inr (.inl ⟨rfl, rfl⟩)⟩
 · refine ⟨_, _, _, _, _, _, _, _, _, rfl, ⟨_, hd⟩, hlie, ?_⟩
   rcases hf with hf | hf
   · exact ⟨t, first, hf, hj.recs, .inr (.inr ⟨rfl, .inl rfl⟩)⟩
   · exact ⟨t', want, hf, hw, .inr (.inr ⟨rfl, .inr rfl⟩)⟩
theorem seen {first want rs' : List (List Int)} {e : Int} (h1 : first.length ≤ 1000) (h2 : want.length ≤ 1000) (h : (e = 5 ∧ rs' = first) ∨ (e = 0 ∧ rs' = want) ∨ (e = 6 ∧ (rs' = first ∨ rs' = want))) :
   ((z4r rs' (if e = 5 then first else want)).bind fun r61 => bif r61 then some true else bif eqI e 6 then (z0s first).bind fun r62 => winK r62 0 (List.length r62) fun w16 => (z4r rs' w16).bind fun r63 => some r63 else some false) = some true := by
 rcases h with ⟨rfl, rfl⟩ | ⟨rfl, rfl⟩ | ⟨rfl, rfl | rfl⟩
 · rw [if_pos rfl, zy2 (by omega)]; rfl
 · rw [if_neg (by decide), zy2 (by omega)]; rfl
 · rw [if_neg (by decide)]
   obtain ⟨b, hb, _⟩ := z1qz (a := rs') (l := want) (by omega) (by omega)
   rw [hb]
   simp only [Option.bind_some]
   cases b with
   | true => rfl
   | false =>
     simp only [cond_false]
     rw [zvx, zv9 (by omega)]
     simp only [cond_true, Option.bind_some, z0y]
     rw [zy2 (by omega)]; rfl
 · rw [if_neg (by decide), zy2 (by omega)]; rfl
theorem z1qe (p : Int) (hp : 0 ≤ p) (c : List Int × Int × Int) (hc : c.1.length ≤ 1000000) (L : List (Int × List Int)) (d2 : Int) (d3 : List Int × Int × Int) (d4 : Int) (d5 : Bool) (s : List (List Int)) :
   z9t p c L d2 d3 d4 d5 s = some (L, p, c, d4, d5, s) := by
 unfold z9t
 rw [z1oi hc]
 simp only [Option.bind_some, beq_self, cond_true]
 have : maxI p (-1) = p := by unfold maxI; rw [if_neg (by omega)]
 rw [this]
theorem z1mc {l : List (List Int)} (h1 : l.length ≤ 6) (h2 : ∀ y, y ∈ l → y.length ≤ 2000) (h3 : ∀ y, y ∈ l → isB y) :
   ∃ k nn s t, z1l l (1, 0, 0) [] 0 false [] (-1) ([], 0, 0) 2 false (new1 120) = some (0, t, lieS l, (l.length : Int), false, [], -1, ([], 0, 0), nn, false, s) ∧ Jn k (-1) ([], 0, 0) nn s t l ∧ k ≤ 10000 ∧ t.1 ≤ 5 := by
 have hj := z1jc 120 (by omega)
 have hlen := zq6 120
 generalize new1 120 = S at *
 by_cases hl : l = []
 · subst hl
   exact ⟨3, 2, S, (1, 0, 0), z1hx hj (by omega), hj, by omega, by show (1 : Int) ≤ 5; omega⟩
 · obtain ⟨r, e, ho⟩ := z1d9 hj (by omega) (by decide) (z1j4 h1 h2 h3) (z1f1 h2) hl
   rcases ho with ⟨e2, h4⟩ | ⟨left', nn', s', rfl, h4, hj', h5⟩ | ⟨h0, _⟩
   · exfalso
     have := z1jf h1 h2
     rw [hlen, List.nil_append] at h4
     have e2 : roomS 120 = 15104 := by unfold roomS secS; rfl
     omega
   · have hl' := h5 (by omega)
     subst hl'
     exact ⟨_, nn', s', _, e, hj', by omega, by show (1 : Int) + 1 ≤ 5; omega⟩
   · omega
theorem z1ih (first then' : List (List Int)) (cut : Bool × Int × (List Int × Int × Int)) (hb : (∀ y, y ∈ first → isB y) ∧ (∀ y, y ∈ then' → isB y))
   (hlen : (first.length ≤ 9223372036854775807 ∧ ∀ y, y ∈ first → y.length ≤ 9223372036854775807) ∧ (then'.length ≤ 9223372036854775807 ∧ ∀ y, y ∈ then' → y.length ≤ 9223372036854775807) ∧ cut.2.2.1.length ≤ 9223372036854775807) : zhd first then' cut = some true := by
 unfold zhd
 rw [z1op]
 simp only [Option.bind_some, Bool.not_true, cond_false]
 obtain ⟨b, hbb, hfit⟩ := z1qg 6 [(0, first, 0, ([], 0, 0)), (0, then', 0, cut.2.2)] (by simp) (fun o ho => by
   simp only [List.mem_cons, List.not_mem_nil, or_false] at ho
   rcases ho with rfl | rfl
   · exact ⟨hlen.1.1, by simp, hlen.1.2⟩
   · exact ⟨hlen.2.1.1, hlen.2.2, hlen.2.1.2⟩)
 rw [hbb]
 simp only [Option.bind_some]
 cases b with
 | false => rfl
 | true =>
   obtain ⟨_, _, _, hf⟩ := hfit rfl
   obtain ⟨f1, _, f2⟩ := hf (0, first, 0, ([], 0, 0)) (by simp)
   obtain ⟨g1, g3, g2⟩ := hf (0, then', 0, cut.2.2) (by simp)
   simp only at f1 f2 g1 g2 g3
   obtain ⟨rep, after, c⟩ := cut
   simp only at g3 ⊢
   rw [z1m4 120 (by omega)]
   simp only [Option.bind_some, Bool.not_true, cond_false, Sum.elim_inr, beq_self, cond_true]
   rw [show (120 : Int).toNat = 120 from rfl, z1hi 120 (by omega)]
   simp only [Option.bind_some, Bool.not_true, cond_false, Sum.elim_inr, beq_self, cond_true, z1a9]
   obtain ⟨k, nn, s, t, e, hj, hk, ht⟩ := z1mc f1 f2 hb.1
   rw [e]
   simp only [Option.bind_some, z1a9, cond_false, beq_self, cond_true]
   have hp : 0 ≤ Int.tmod (WU64 after) 60 ∧ Int.tmod (WU64 after) 60 ≤ 59 := by
     have : 0 ≤ WU64 after := by
       show 0 ≤ IntKind.u64.wrap after
       simp [IntKind.wrap, IntKind.bits, IntKind.signed]; omega
     rw [Int.tmod_eq_emod_of_nonneg this]; omega
   generalize Int.tmod (WU64 after) 60 = p at *
   rw [z1d (n := p) (by omega), z1qe p hp.1 c (by omega), zv9 (l := first) (by omega), zv9 (l := then') (by omega)]
   simp only [Option.bind_some, z1a9, cond_false, beq_self, cond_true, z0y]
   rw [z4n (by omega)]
   have hj2 : Jn k p c nn s t first := ⟨dv_on (by omega) (by omega) hj.dv, hj.lie, hj.st, hj.recs⟩
   have okt := z1j4 g1 g2 hb.2
   have sht := z1f1 g2
   have hbt : ∀ y, y ∈ then' → isB y ∧ y.length ≤ 65531 := fun y hy => ⟨hb.2 y hy, z1ap sht y hy⟩
   -- behind either call
   have fin : ∀ (want : List (List Int)) (x : Option (Int × (Int × Int × Int) × List Int × Int × Bool × DevT)), want.length ≤ 1000 → OpOut c first want x →
       ∃ e t0 dt cn br left' nn' off' s', x = some (e, t0, dt, cn, br, [], left', c, nn', off', s') ∧
         ∃ left2 d t' rs', z2x c [] left' c nn' off' s' = some ([], left2, c, nn', true, s') ∧ z6r [] left2 c nn' true s' = some (true, [], left2, c, nn', false, s') ∧
           z1y [] left2 c nn' false s' = some (.inr (0, [], left2, c, nn', false, t', lieS rs', (rs'.length : Int), false, rs', d)) ∧
           ((e = 5 ∧ rs' = first) ∨ (e = 0 ∧ rs' = want) ∨ (e = 6 ∧ (rs' = first ∨ rs' = want))) := fun want x hwl hx => by
     obtain ⟨e, t0, dt, cn, br, left', nn', off', s', hx1, ⟨kk, hd⟩, hlie, t', rs', hfn, hrs, hcase⟩ := hx
     obtain ⟨left2, d, c1, c2, c3⟩ := z1mi (c := c) (by omega) hd hlie hfn hrs
     exact ⟨e, t0, dt, cn, br, left', nn', off', s', hx1, left2, d, t', rs', c1, c2, c3, hcase⟩
   cases rep with
   | true =>
     obtain ⟨r, er, ho⟩ := z1im hj2 (by omega) (by omega) okt sht
     have hop := z1fv hj2 hbt ho
     rw [← er] at hop
     obtain ⟨e5, t0, dt, cn, br, left', nn', off', s', hx1, left2, d, t', rs', c1, c2, c3, hcase⟩ := fin then' _ (by omega) hop
     simp only [cond_true]
     rw [hx1]
     simp only [Option.bind_some, beq_self, cond_true]
     have hsee := seen (by omega) (by omega) hcase
     by_cases h5 : e5 = 5
     · rw [eqI_t h5]
       rw [if_pos h5] at hsee
       simp only [cond_true, Option.bind_some, beq_self]
       rw [zv9 (l := first) (by omega)]
       simp only [cond_true, Option.bind_some, beq_self]
       rw [c1]
       simp only [cond_true, Option.bind_some, beq_self]
       rw [c2]
       simp only [cond_true, Option.bind_some, beq_self]
       rw [c3]
       simp only [cond_true, Option.bind_some, beq_self, Sum.elim_inr, z0y, zvx]
       simp only [z0y] at hsee
       exact hsee
     · rw [eqI_f h5]
       rw [if_neg h5] at hsee
       simp only [cond_false, cond_true, Option.bind_some, beq_self]
       rw [c1]
       simp only [cond_true, Option.bind_some, beq_self]
       rw [c2]
       simp only [cond_true, Option.bind_some, beq_self]
       rw [c3]
       simp only [cond_true, Option.bind_some, beq_self, Sum.elim_inr, z0y, zvx]
       simp only [z0y] at hsee
       exact hsee
   | false =>
     have hop : OpOut c first (first ++ then') (z1l then' t (lieS first) (first.length : Int) false [] p c nn false s) := by
       by_cases hn : then' = []
       · rw [hn, List.append_nil]
         rw [z1hx hj2 (by omega)]
         exact ⟨_, _, _, _, _, _, _, _, _, rfl, ⟨k, hj2.dv⟩, hj2.lie, t, first, hj2.st.fnd, hj2.recs, .inr (.inl ⟨rfl, rfl⟩)⟩
       · obtain ⟨r, er, ho⟩ := z1d9 hj2 (by omega) (by omega) okt sht hn
         rw [er]
         refine z1fv hj2 (fun y hy => ?_) ho
         rcases List.mem_append.1 hy with h | h
         · exact hj2.recs y h
         · exact hbt y h
     obtain ⟨e5, t0, dt, cn, br, left', nn', off', s', hx1, left2, d, t', rs', c1, c2, c3, hcase⟩ := fin (first ++ then') _ (by simp; omega) hop
     simp only [cond_false]
     rw [hx1]
     simp only [Option.bind_some, beq_self, cond_true]
     have hsee := seen (by omega) (by simp; omega) hcase
     by_cases h5 : e5 = 5
     · rw [eqI_t h5]
       rw [if_pos h5] at hsee
       simp only [cond_true, Option.bind_some, beq_self]
       rw [zv9 (l := first) (by omega)]
       simp only [cond_true, Option.bind_some, beq_self]
       rw [c1]
       simp only [cond_true, Option.bind_some, beq_self]
       rw [c2]
       simp only [cond_true, Option.bind_some, beq_self]
       rw [c3]
       simp only [cond_true, Option.bind_some, beq_self, Sum.elim_inr, z0y, zvx]
       simp only [z0y] at hsee
       exact hsee
     · rw [eqI_f h5]
       rw [if_neg h5] at hsee
       simp only [cond_false, cond_true, Option.bind_some, beq_self]
       rw [c1]
       simp only [cond_true, Option.bind_some, beq_self]
       rw [c2]
       simp only [cond_true, Option.bind_some, beq_self]
       rw [c3]
       simp only [cond_true, Option.bind_some, beq_self, Sum.elim_inr, z0y, zvx]
       simp only [z0y] at hsee
       exact hsee
end Go.Proofs.Ytpfjfldagldgnaa