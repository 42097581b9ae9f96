import Derived.Test.YtfbdjicfkcklfaaTm21to25
import Derived.Test.YtfbdjicfkcklfaaProg
set_option maxRecDepth 100000
set_option linter.unusedVariables false
noncomputable section
namespace Go.Proofs.Ytfbdjicfkcklfaa
open Go.Tm Go.Ab
abbrev T0 := Int × Int
abbrev T1 := T0 × (List Int) × Int × T0 × T0 × (List Int) × (List T0) × (List T0) × Int × (List Int) × Int
abbrev T2 := T0 × T0 × (List Int) × T0 × (List Int)
abbrev T3 := T0 × (List Int) × (List Int)
abbrev T4 := T0 × Bool × T0 × (List Int) × (List Int) × (List T3)
abbrev T5 := (List Int) × (List T4) × (List T2) × (List Int) × (List Bool)
def c0 : U := (.st (.cons (.int .i64) (.one (.int .u32))))
def c1 : U := (.arr 8 (.int .u32))
def r2 : Rt := .one (.st (.cons .leaf (.one .leaf)))
def c3 : U := (.sl (.st (.cons (.st (.cons (.int .i64) (.one (.int .u32)))) (.cons (.arr 8 (.int .u32)) (.cons (.int .i64) (.cons (.st (.cons (.int .i64) (.one (.int .u32)))) (.cons (.st (.cons (.int .i64) (.one (.int .u32)))) (.cons .str (.cons (.sl (.st (.cons (.int .i64) (.one (.int .u32))))) (.cons (.sl (.st (.cons (.int .i64) (.one (.int .u32))))) (.cons (.int .i64) (.cons .str (.one (.int .i64))))))))))))))
def c4 : U := (.sl (.st (.cons (.int .i64) (.one (.int .u32)))))
def c5 : U := (.sl (.st (.cons (.st (.cons (.int .i64) (.one (.int .u32)))) (.cons (.st (.cons (.int .i64) (.one (.int .u32)))) (.cons .str (.cons (.st (.cons (.int .i64) (.one (.int .u32)))) (.one (.arr 8 (.int .u32)))))))))
def c6 : U := (.st (.cons (.st (.cons (.int .i64) (.one (.int .u32)))) (.cons (.st (.cons (.int .i64) (.one (.int .u32)))) (.cons .str (.cons (.st (.cons (.int .i64) (.one (.int .u32)))) (.one (.arr 8 (.int .u32))))))))
def r7 : Rt := .one (.st (.cons (.st (.cons .leaf (.one .leaf))) (.cons (.st (.cons .leaf (.one .leaf))) (.cons .leaf (.cons (.st (.cons .leaf (.one .leaf))) (.one (.arr 8 .leaf)))))))
def r8 : Rt := .one (.st (.cons (.st (.cons .leaf (.one .leaf))) (.cons (.arr 8 .leaf) (.cons .leaf (.cons (.st (.cons .leaf (.one .leaf))) (.cons (.st (.cons .leaf (.one .leaf))) (.cons .leaf (.cons .leaf (.cons .leaf (.cons .leaf (.cons .leaf (.one .leaf))))))))))))
def c9 : U := (.st (.cons (.st (.cons (.int .i64) (.one (.int .u32)))) (.cons (.arr 8 (.int .u32)) (.cons (.int .i64) (.cons (.st (.cons (.int .i64) (.one (.int .u32)))) (.cons (.st (.cons (.int .i64) (.one (.int .u32)))) (.cons .str (.cons (.sl (.st (.cons (.int .i64) (.one (.int .u32))))) (.cons (.sl (.st (.cons (.int .i64) (.one (.int .u32))))) (.cons (.int .i64) (.cons .str (.one (.int .i64)))))))))))))
def c10 : U := (.sl (.st (.cons (.st (.cons (.int .i64) (.one (.int .u32)))) (.cons .str (.one (.arr 8 (.int .u32)))))))
def c11 : U := (.st (.cons (.st (.cons (.int .i64) (.one (.int .u32)))) (.cons .str (.one (.arr 8 (.int .u32))))))
def r12 : Rt := .one (.st (.cons (.st (.cons .leaf (.one .leaf))) (.cons .leaf (.one (.arr 8 .leaf)))))
def r13 : Rt := .one (.st (.cons (.st (.cons .leaf (.one .leaf))) (.cons .leaf (.cons (.st (.cons .leaf (.one .leaf))) (.cons .leaf (.cons (.arr 8 .leaf) (.one .leaf)))))))
def c14 : U := (.st (.cons (.st (.cons (.int .i64) (.one (.int .u32)))) (.cons .bool (.cons (.st (.cons (.int .i64) (.one (.int .u32)))) (.cons .str (.cons (.arr 8 (.int .u32)) (.one (.sl (.st (.cons (.st (.cons (.int .i64) (.one (.int .u32)))) (.cons .str (.one (.arr 8 (.int .u32))))))))))))))
def r15 : Rt := .one (.st (.cons (.arr 8 .leaf) (.cons .leaf (.cons .leaf (.cons (.arr 8 .leaf) (.one (.arr 8 .leaf)))))))
def c16 : U := (.arr 8 (.int .i64))
def c17 : U := (.st (.cons (.arr 8 (.int .u32)) (.cons (.sl (.st (.cons (.st (.cons (.int .i64) (.one (.int .u32)))) (.cons .bool (.cons (.st (.cons (.int .i64) (.one (.int .u32)))) (.cons .str (.cons (.arr 8 (.int .u32)) (.one (.sl (.st (.cons (.st (.cons (.int .i64) (.one (.int .u32)))) (.cons .str (.one (.arr 8 (.int .u32))))))))))))))) (.cons (.sl (.st (.cons (.st (.cons (.int .i64) (.one (.int .u32)))) (.cons (.st (.cons (.int .i64) (.one (.int .u32)))) (.cons .str (.cons (.st (.cons (.int .i64) (.one (.int .u32)))) (.one (.arr 8 (.int .u32))))))))) (.cons (.arr 8 (.int .i64)) (.one (.arr 8 .bool)))))))
def c18 : U := (.sl (.st (.cons (.st (.cons (.int .i64) (.one (.int .u32)))) (.cons .bool (.cons (.st (.cons (.int .i64) (.one (.int .u32)))) (.cons .str (.cons (.arr 8 (.int .u32)) (.one (.sl (.st (.cons (.st (.cons (.int .i64) (.one (.int .u32)))) (.cons .str (.one (.arr 8 (.int .u32)))))))))))))))
def z1pp : Env := ⟨[], [], []⟩
theorem z18u : EnvsOK Try.prog z1pp := ⟨z0x _, z0t _, z0u _⟩
def znt : Shp := ⟨20, 0, [(2, .pt 0 (.one (.arr 8 .leaf)) []), (3, .pt 1 (.one (.arr 8 .leaf)) [])], [.var 25 (.d c1), .var 25 (.d c1)]⟩
def zbr : XS := .one (.exit 0) znt.xe
theorem zz7 : zbr.OK := XS.one_ok (z0d znt)
def zby : Shp := ⟨20, 0, [(1, .pt 0 r2 []), (2, .pt 1 (.one (.arr 8 .leaf)) []), (3, .pt 2 (.one (.arr 8 .leaf)) []), (4, .d (.int .i64))], [.var 43 (.d c0), .var 25 (.d c1), .var 25 (.d c1)]⟩
abbrev ziw := Int × T0 × (List Int) × (List Int)
abbrev zq6 := ((List Int) × (List Int))
def zig (i : Int) (id : T0) (t2 : List Int) (out : List Int) : Option (ziw ⊕ zq6) :=
 bif ltI i 8 then
 bif eqI (W64 (i + 1)) id.1 then
 bif inI i 8 then
 (out[i.toNat]?).bind fun _x =>
 some (.inl (W64 (i + 1), id, t2, out.set i.toNat id.2))
 else none
 else
 some (.inl (W64 (i + 1), id, t2, out))
 else
 some (.inr (t2, out))
def z6g (s : ziw) : Option (ziw ⊕ zq6) := zig s.1 s.2.1 s.2.2.1 s.2.2.2
theorem z10i : SoundD Try.prog (.loop (subC (bodyC Try.f56) [1, 1, 0, 1, 0, 0])) (loopD zby.xe zbr (loopC z6g)) :=
 z0v (S := zby.xe) (X := zbr) z18u (h := .no) (z0p [] (by kernel_rfl) trivial) (z0d zby) zz7 z6g (fun s => by kernel_rfl)
def z18x : Shp := ⟨1, 0, [(0, .d c1)], []⟩
def z1ff : XS := .one .ret z18x.xe
theorem z1jq : z1ff.OK := XS.one_ok (z0d z18x)
def z11e (id : T0) : Option (((List Int))) :=
 (loopC z6g (0, id, List.replicate 8 (0 : Int), List.replicate 8 (0 : Int))).bind fun o =>
 some o.2
def z1el : Sig := ⟨56, [.d c0], [], 0, z1ff⟩
def z1c6 (x : T0) : Option (((List Int))) := z11e x
theorem z1ov : FnOK Try.prog z1el z1c6 :=
 fn_ok z18u (h := (.two .no (.two .no (.two (.two .no (.over (loopD zby.xe zbr (loopC z6g)))) .no)))) Try.func56 (z0p [.den (.loop (subC (bodyC Try.f56) [1, 1, 0, 1, 0, 0])) (loopD zby.xe zbr (loopC z6g))] (by kernel_rfl) ⟨z10i, trivial⟩) (by kernel_rfl) z1jq (fun x => by kernel_rfl)
def z1ox : Env := ⟨[], [], []⟩
theorem z14y : EnvsOK Try.prog z1ox := ⟨z0x _, z0t _, z0u _⟩
def zlz : Shp := ⟨30, 0, [(4, .pt 0 (.one (.arr 8 .leaf)) []), (5, .pt 1 (.one (.arr 8 .leaf)) [])], [.var 25 (.d c1), .var 25 (.d c1)]⟩
def zay : XS := .one (.exit 0) zlz.xe
theorem zx5 : zay.OK := XS.one_ok (z0d zlz)
def zb1 : Shp := ⟨30, 0, [(2, .pt 0 (.one (.arr 8 .leaf)) []), (3, .pt 1 (.one (.arr 8 .leaf)) []), (4, .pt 2 (.one (.arr 8 .leaf)) []), (5, .pt 3 (.one (.arr 8 .leaf)) []), (6, .d (.int .i64))], [.var 25 (.d c1), .var 25 (.d c1), .var 25 (.d c1), .var 25 (.d c1)]⟩
abbrev zhl := Int × (List Int) × (List Int) × (List Int) × (List Int)
abbrev zoe := ((List Int) × (List Int))
def zhp (i : Int) (a : List Int) (b : List Int) (t4 : List Int) (out : List Int) : Option (zhl ⊕ zoe) :=
 bif ltI i 8 then
 bif inI i 8 then
 (a[i.toNat]?).bind fun x =>
 bif inI i 8 then
 (out[i.toNat]?).bind fun _x =>
 bif inI i 8 then
 (b[i.toNat]?).bind fun x2 =>
 bif inI i 8 then
 (a[i.toNat]?).bind fun x3 =>
 bif ltI x3 x2 then
 bif inI i 8 then
 (b[i.toNat]?).bind fun x4 =>
 bif inI i 8 then
 ((out.set i.toNat x)[i.toNat]?).bind fun _x2 =>
 some (.inl (W64 (i + 1), a, b, t4, (out.set i.toNat x).set i.toNat x4))
 else none
 else none
 else
 some (.inl (W64 (i + 1), a, b, t4, out.set i.toNat x))
 else none
 else none
 else none
 else none
 else
 some (.inr (t4, out))
def z5v (s : zhl) : Option (zhl ⊕ zoe) := zhp s.1 s.2.1 s.2.2.1 s.2.2.2.1 s.2.2.2.2
theorem zzz : SoundD Try.prog (.loop (subC (bodyC Try.f17) [1, 1, 0, 1, 0, 0])) (loopD zb1.xe zay (loopC z5v)) :=
 z0v (S := zb1.xe) (X := zay) z14y (h := .no) (z0p [] (by kernel_rfl) trivial) (z0d zb1) zx5 z5v (fun s => by kernel_rfl)
def z16l : Shp := ⟨1, 0, [(0, .d c1)], []⟩
def z1bi : XS := .one .ret z16l.xe
theorem z1h8 : z1bi.OK := XS.one_ok (z0d z16l)
def zju (a : List Int) (b : List Int) : Option (((List Int))) :=
 (loopC z5v (0, a, b, List.replicate 8 (0 : Int), List.replicate 8 (0 : Int))).bind fun o =>
 some o.2
def zmw : Sig := ⟨17, [.d c1, .d c1], [], 0, z1bi⟩
def zkf (x : (List Int) × (List Int)) : Option (((List Int))) := zju x.1 x.2
theorem zpk : FnOK Try.prog zmw zkf :=
 fn_ok z14y (h := (.two .no (.two .no (.two (.two .no (.over (loopD zb1.xe zay (loopC z5v)))) .no)))) Try.func17 (z0p [.den (.loop (subC (bodyC Try.f17) [1, 1, 0, 1, 0, 0])) (loopD zb1.xe zay (loopC z5v))] (by kernel_rfl) ⟨zzz, trivial⟩) (by kernel_rfl) z1h8 (fun x => by kernel_rfl)
def z1ns : Env := ⟨[(entQ z1el z1c6), (entQ zmw zkf)], [], []⟩
theorem z1je : EnvsOK Try.prog z1ns := ⟨z0o (z0q z1ov) (z0o (z0q zpk) (z0x _)), z0t _, z0u _⟩
def z16j : Shp := ⟨1, 0, [(0, .d c1)], []⟩
def z1cx : XS := .one .ret z16j.xe
theorem z1id : z1cx.OK := XS.one_ok (z0d z16j)
def z9z (v : List Int) (id : T0) : Option (((List Int))) :=
 (z11e id).bind fun r =>
 (zju v r).bind fun r2 =>
 some r2
def z9e : Sig := ⟨33, [.d c1, .d c0], [], 0, z1cx⟩
def z7t (x : (List Int) × T0) : Option (((List Int))) := z9z x.1 x.2
theorem z9u : FnOK Try.prog z9e z7t :=
 fn_ok z1je (h := .no) Try.func33 (z0p [] (by kernel_rfl) trivial) (by kernel_rfl) z1id (fun x => by kernel_rfl)
def z1ml : Env := ⟨[(entQ z9e z7t)], [], []⟩
theorem z10u : EnvsOK Try.prog z1ml := ⟨z0o (z0q z9u) (z0x _), z0t _, z0u _⟩
def zli : Shp := ⟨20, 0, [(2, .pt 0 (.one (.arr 8 .leaf)) []), (3, .pt 1 (.one (.arr 8 .leaf)) [])], [.var 25 (.d c1), .var 25 (.d c1)]⟩
def zaf : XS := .one (.exit 0) zli.xe
theorem zvn : zaf.OK := XS.one_ok (z0d zli)
def zah : Shp := ⟨20, 0, [(0, .d c3), (2, .pt 0 (.one (.arr 8 .leaf)) []), (3, .pt 1 (.one (.arr 8 .leaf)) []), (4, .d (.int .i64))], [.var 25 (.d c1), .var 25 (.d c1)]⟩
abbrev zg9 := (List T1) × Int × (List Int) × (List Int)
abbrev zo0 := ((List Int) × (List Int))
def zgb (l : List T1) (i : Int) (t2 : List Int) (v : List Int) : Option (zg9 ⊕ zo0) :=
 z0s (List.length l) (
 bif ltI i (List.length l : Nat) then
 (idxI l i).bind fun x =>
 (z9z v x.1).bind fun r =>
 some (.inl (l, W64 (i + 1), t2, r))
 else
 some (.inr (t2, v)))
def z5i (s : zg9) : Option (zg9 ⊕ zo0) := zgb s.1 s.2.1 s.2.2.1 s.2.2.2
theorem zxf : SoundD Try.prog (.loop (subC (bodyC Try.f28) [1, 1, 0, 1, 0, 0])) (loopD zah.xe zaf (loopC z5i)) :=
 z0v (S := zah.xe) (X := zaf) z10u (h := .no) (z0p [] (by kernel_rfl) trivial) (z0d zah) zvn z5i (fun s => by kernel_rfl)
def z11h : Shp := ⟨1, 0, [(0, .d c1)], []⟩
def z1a0 : XS := .one .ret z11h.xe
theorem z1ga : z1a0.OK := XS.one_ok (z0d z11h)
def zpe (l : List T1) : Option (((List Int))) :=
 (loopC z5i (l, 0, List.replicate 8 (0 : Int), List.replicate 8 (0 : Int))).bind fun o =>
 some o.2
def zvr : Sig := ⟨28, [.d c3], [], 0, z1a0⟩
def ztp (x : (List T1)) : Option (((List Int))) := zpe x
theorem z16o : FnOK Try.prog zvr ztp :=
 fn_ok z10u (h := (.two .no (.two .no (.two (.two .no (.over (loopD zah.xe zaf (loopC z5i)))) .no)))) Try.func28 (z0p [.den (.loop (subC (bodyC Try.f28) [1, 1, 0, 1, 0, 0])) (loopD zah.xe zaf (loopC z5i))] (by kernel_rfl) ⟨zxf, trivial⟩) (by kernel_rfl) z1ga (fun x => by kernel_rfl)
def z1rd : Env := ⟨[], [], []⟩
theorem z1bv : EnvsOK Try.prog z1rd := ⟨z0x _, z0t _, z0u _⟩
def zrt : Shp := ⟨18, 0, [], []⟩
def zsg : Shp := ⟨18, 0, [(4, .d .bool)], []⟩
def ze2 : XS := .or (.exit 0) zrt.xe (.one .ret zsg.xe)
theorem z15f : ze2.OK := XS.or_ok (z0d zrt) (XS.one_ok (z0d zsg))
def zdz : Shp := ⟨18, 0, [(0, .d c4), (3, .pt 0 r2 []), (5, .d (.int .i64))], [.var 43 (.d c0)]⟩
abbrev zlt := (List T0) × Int × T0
abbrev zv5 := (Unit) ⊕ (Bool)
def zh4 (l : List T0) (i : Int) (x : T0) : Option (zlt ⊕ zv5) :=
 z0s (List.length l) (
 bif ltI i (List.length l : Nat) then
 (idxI l i).bind fun x2 =>
 bif eqU c0 x2 x then
 some (.inr (.inr true))
 else
 some (.inl (l, W64 (i + 1), x))
 else
 some (.inr (.inl ())))
def z6z (s : zlt) : Option (zlt ⊕ zv5) := zh4 s.1 s.2.1 s.2.2
theorem z18h : SoundD Try.prog (.loop (subC (bodyC Try.f53) [1, 0, 1, 0, 0])) (loopD zdz.xe ze2 (loopC z6z)) :=
 z0v (S := zdz.xe) (X := ze2) z1bv (h := .no) (z0p [] (by kernel_rfl) trivial) (z0d zdz) z15f z6z (fun s => by kernel_rfl)
def z1b3 : Shp := ⟨1, 0, [(0, .d .bool)], []⟩
def z1i3 : XS := .one .ret z1b3.xe
theorem z1mb : z1i3.OK := XS.one_ok (z0d z1b3)
def zhu (l : List T0) (x : T0) : Option ((Bool)) :=
 (loopC z6z (l, 0, x)).bind fun o =>
 Sum.elim (fun y =>
 some false) (fun y2 =>
 some y2) o
def zs3 : Sig := ⟨53, [.d c4, .d c0], [], 0, z1i3⟩
def zol (x : (List T0) × T0) : Option ((Bool)) := zhu x.1 x.2
theorem zu5 : FnOK Try.prog zs3 zol :=
 fn_ok z1bv (h := (.two .no (.two (.two .no (.over (loopD zdz.xe ze2 (loopC z6z)))) .no))) Try.func53 (z0p [.den (.loop (subC (bodyC Try.f53) [1, 0, 1, 0, 0])) (loopD zdz.xe ze2 (loopC z6z))] (by kernel_rfl) ⟨z18h, trivial⟩) (by kernel_rfl) z1mb (fun x => by kernel_rfl)
def z1kh : Env := ⟨[], [], []⟩
theorem z1g0 : EnvsOK Try.prog z1kh := ⟨z0x _, z0t _, z0u _⟩
def zy5 : Shp := ⟨1, 0, [(0, .d .bool)], []⟩
def z16h : XS := .one .ret zy5.xe
theorem z1ec : z16h.OK := XS.one_ok (z0d zy5)
def zbg (a : T0) (b : T0) : Option ((Bool)) :=
 bif ltI a.2 b.2 then
 some true
 else
 bif eqI a.2 b.2 then
 some (ltI a.1 b.1)
 else
 some false
def zbq : Sig := ⟨31, [.d c0, .d c0], [], 0, z16h⟩
def zaq (x : T0 × T0) : Option ((Bool)) := zbg x.1 x.2
theorem zc5 : FnOK Try.prog zbq zaq :=
 fn_ok z1g0 (h := .no) Try.func31 (z0p [] (by kernel_rfl) trivial) (by kernel_rfl) z1ec (fun x => by kernel_rfl)
def z1pn : Env := ⟨[(entQ zmw zkf), (entQ zbq zaq)], [], []⟩
theorem z18r : EnvsOK Try.prog z1pn := ⟨z0o (z0q zpk) (z0o (z0q zc5) (z0x _)), z0t _, z0u _⟩
def zf0 : Shp := ⟨67, 0, [(0, .d c5), (3, .pt 0 r7 []), (5, .wn 1 c6), (6, .d .bool), (7, .d (.int .i64))], [.var 45 (.d c6), .row 45 c6]⟩
def zbm : XS := .one .normal zf0.xe
theorem znd : zbm.OK := XS.one_ok (z0d zf0)
def ze9 : Shp := ⟨67, 0, [(0, .d c5), (3, .pt 0 r7 []), (5, .wn 1 c6), (6, .d .bool), (7, .d (.int .i64)), (48, .d .bool)], [.var 45 (.d c6), .row 45 c6]⟩
def zaj : XS := .one .normal ze9.xe
theorem zlo : zaj.OK := XS.one_ok (z0d ze9)
def zld : Shp := ⟨67, 0, [(3, .pt 0 r7 []), (5, .wn 1 c6), (6, .d .bool)], [.var 45 (.d c6), .row 45 c6]⟩
def zai : XS := .one (.exit 0) zld.xe
theorem zvz : zai.OK := XS.one_ok (z0d zld)
def zag : Shp := ⟨67, 0, [(0, .d c5), (3, .pt 0 r7 []), (5, .wn 1 c6), (6, .d .bool), (7, .d (.int .i64))], [.var 45 (.d c6), .row 45 c6]⟩
abbrev zga := (List T2) × Bool × Int × T2 × (List T2)
abbrev znr := (Bool × T2 × (List T2))
def zcw (l : List T2) (put : Bool) (i : Int) (x : T2) (out : List T2) : Option (zga ⊕ znr) :=
 z0s (List.length l) (
 bif ltI i (List.length l : Nat) then
 (idxI l i).bind fun x2 =>
 bif eqU c0 x2.1 x.1 then
 (idxI l i).bind fun x3 =>
 (zju x3.2.2.2.2 x.2.2.2.2).bind fun r =>
 bif Nat.beq (List.length out) (List.length out) then
 appG (List.length out) (List.length ([(x3.1, x3.2.1, x3.2.2.1, x3.2.2.2.1, r)] : List T2)) 96 fun _ =>
 bif Nat.beq (List.length (out ++ ([(x3.1, x3.2.1, x3.2.2.1, x3.2.2.2.1, r)] : List T2))) (List.length (out ++ ([(x3.1, x3.2.1, x3.2.2.1, x3.2.2.2.1, r)] : List T2))) then
 some (.inl (l, true, W64 (i + 1), x, out ++ ([(x3.1, x3.2.1, x3.2.2.1, x3.2.2.2.1, r)] : List T2)))
 else none
 else none
 else
 (show Option (((List T2) × Bool × Int × T2 × (List T2))) from
 (show Option (((List T2) × Bool × Int × Bool × T2 × (List T2))) from
 bif !put then
 (idxI l i).bind fun x4 =>
 (zbg x.1 x4.1).bind fun r2 =>
 bif Nat.beq (List.length out) (List.length out) then
 some (l, put, i, r2, x, out)
 else none
 else
 bif Nat.beq (List.length out) (List.length out) then
 some (l, put, i, false, x, out)
 else none).bind fun j =>
 bif j.2.2.2.1 then
 bif Nat.beq (List.length j.2.2.2.2.2) (List.length j.2.2.2.2.2) then
 appG (List.length j.2.2.2.2.2) (List.length ([j.2.2.2.2.1] : List T2)) 96 fun _ =>
 bif Nat.beq (List.length (j.2.2.2.2.2 ++ ([j.2.2.2.2.1] : List T2))) (List.length (j.2.2.2.2.2 ++ ([j.2.2.2.2.1] : List T2))) then
 some (j.1, true, j.2.2.1, j.2.2.2.2.1, j.2.2.2.2.2 ++ ([j.2.2.2.2.1] : List T2))
 else none
 else none
 else
 bif Nat.beq (List.length j.2.2.2.2.2) (List.length j.2.2.2.2.2) then
 some (j.1, j.2.1, j.2.2.1, j.2.2.2.2.1, j.2.2.2.2.2)
 else none).bind fun j2 =>
 (idxI j2.1 j2.2.2.1).bind fun x5 =>
 bif Nat.beq (List.length j2.2.2.2.2) (List.length j2.2.2.2.2) then
 appG (List.length j2.2.2.2.2) (List.length ([x5] : List T2)) 96 fun _ =>
 bif Nat.beq (List.length (j2.2.2.2.2 ++ ([x5] : List T2))) (List.length (j2.2.2.2.2 ++ ([x5] : List T2))) then
 some (.inl (j2.1, j2.2.1, W64 (j2.2.2.1 + 1), j2.2.2.2.1, j2.2.2.2.2 ++ ([x5] : List T2)))
 else none
 else none
 else
 bif Nat.beq (List.length out) (List.length out) then
 some (.inr (put, x, out))
 else none)
def z3y (s : zga) : Option (zga ⊕ znr) := zcw s.1 s.2.1 s.2.2.1 s.2.2.2.1 s.2.2.2.2
theorem zwr : SoundD Try.prog (.loop (subC (bodyC Try.f54) [1, 1, 1, 0, 1, 0, 0])) (loopD zag.xe zai (loopC z3y)) :=
 z0v (S := zag.xe) (X := zai) z18r (h := (.two .no (.two (.two .no (.join (fun _ => zbm) (.join (fun _ => zaj) .no .no) .no)) .no))) (z0p [.xs (fun _ => zbm), .xs (fun _ => zaj)] (by kernel_rfl) ⟨(z2o znd), (z2o zlo), trivial⟩) (z0d zag) zvz z3y (fun s => by kernel_rfl)
def z19q : Shp := ⟨1, 0, [(0, .d c5)], []⟩
def z1ei : XS := .one .ret z19q.xe
theorem z1k2 : z1ei.OK := XS.one_ok (z0d z19q)
def zgy (l : List T2) (x : T2) : Option (((List T2))) :=
 bif Nat.beq 0 (List.length ([] : List T2)) then
 (loopC z3y (l, false, 0, x, ([] : List T2))).bind fun o =>
 bif !o.1 then
 bif Nat.beq (List.length o.2.2) (List.length o.2.2) then
 appG (List.length o.2.2) (List.length ([o.2.1] : List T2)) 96 fun _ =>
 winK (o.2.2 ++ ([o.2.1] : List T2)) 0 (List.length (o.2.2 ++ ([o.2.1] : List T2))) fun w =>
 some w
 else none
 else
 winK o.2.2 0 (List.length o.2.2) fun w2 =>
 some w2
 else none
def z12v : Sig := ⟨54, [.d c5, .d c6], [], 0, z1ei⟩
def zy1 (x : (List T2) × T2) : Option (((List T2))) := zgy x.1 x.2
theorem z1bl : FnOK Try.prog z12v zy1 :=
 fn_ok z18r (h := (.two .no (.two .no (.two .no (.two (.two .no (.over (loopD zag.xe zai (loopC z3y)))) .no))))) Try.func54 (z0p [.den (.loop (subC (bodyC Try.f54) [1, 1, 1, 0, 1, 0, 0])) (loopD zag.xe zai (loopC z3y))] (by kernel_rfl) ⟨zwr, trivial⟩) (by kernel_rfl) z1k2 (fun x => by kernel_rfl)
def z1hc : Env := ⟨[(entQ zs3 zol), (entQ z9e z7t), (entQ z12v zy1)], [], []⟩
theorem zo1 : EnvsOK Try.prog z1hc := ⟨z0o (z0q zu5) (z0o (z0q z9u) (z0o (z0q z1bl) (z0x _))), z0t _, z0u _⟩
def ze6 : Shp := ⟨101, 0, [(0, .d c3), (3, .d c5), (4, .d (.int .i64)), (5, .pt 0 r8 [])], [.var 67 (.d c9)]⟩
def zed : Shp := ⟨101, 0, [(0, .d c3), (3, .d c5), (4, .d (.int .i64)), (23, .pt 0 r8 [.fld 2]), (24, .d (.int .i64)), (25, .d .bool), (28, .pt 0 r8 [.fld 2]), (29, .d (.int .i64)), (30, .d .bool)], [.var 67 (.d c9)]⟩
def zak : XS := .or .normal ze6.xe (.one (.exit 1) zed.xe)
theorem zln : zak.OK := XS.or_ok (z0d ze6) (XS.one_ok (z0d zed))
def zc6 : Shp := ⟨101, 0, [(0, .d c3), (3, .d c5), (4, .d (.int .i64)), (6, .pt 0 r7 [])], [.var 45 (.d c6)]⟩
def z8h : XS := .one .normal zc6.xe
theorem zj5 : z8h.OK := XS.one_ok (z0d zc6)
def z6i : Shp := ⟨101, 0, [(0, .d c3), (3, .d c5), (4, .d (.int .i64)), (6, .pt 0 r7 []), (7, .d (.int .i64)), (8, .d .bool)], [.var 45 (.d c6)]⟩
def z3m : XS := .one .normal z6i.xe
theorem zd7 : z3m.OK := XS.one_ok (z0d z6i)
def z5y : Shp := ⟨101, 0, [(0, .d c3), (3, .d c5), (4, .d (.int .i64)), (6, .pt 0 r7 []), (7, .d (.int .i64)), (87, .d .bool)], [.var 45 (.d c6)]⟩
def z3h : XS := .one .normal z5y.xe
theorem zco : z3h.OK := XS.one_ok (z0d z5y)
def z8z : Shp := ⟨101, 0, [(0, .d c3), (3, .d c5), (4, .d (.int .i64)), (6, .pt 0 r7 [])], [.var 45 (.d c6)]⟩
def z2e : XS := .one (.exit 2) z8z.xe
theorem zf8 : z2e.OK := XS.one_ok (z0d z8z)
def z2d : Shp := ⟨101, 0, [(0, .d c3), (3, .d c5), (4, .d (.int .i64)), (6, .pt 0 r7 []), (7, .d (.int .i64))], [.var 45 (.d c6)]⟩
abbrev z5a := (List T1) × (List T2) × Int × Int × T2
abbrev z9w := ((List T1) × (List T2) × Int × T2)
def z2c (l : List T1) (out : List T2) (i : Int) (k : Int) (x : T2) : Option (z5a ⊕ z9w) :=
 z0s (List.length l) (
 bif ltI k (List.length l : Nat) then
 (show Option (((List T1) × (List T2) × Int × Int × Bool × T2)) from
 (idxI l k).bind fun x2 =>
 bif eqI x2.2.2.1 6 then
 some (l, out, i, k, true, x)
 else
 (idxI l k).bind fun x3 =>
 some (l, out, i, k, eqI x3.2.2.1 7, x)).bind fun j =>
 (show Option (((List T1) × (List T2) × Int × Int × Bool × T2)) from
 bif j.2.2.2.2.1 then
 (idxI j.1 j.2.2.2.1).bind fun x4 =>
 bif eqU c0 x4.2.2.2.1 j.2.2.2.2.2.2.2.2.1 then
 (idxI j.1 j.2.2.2.1).bind fun x5 =>
 (zhu x5.2.2.2.2.2.2.1 j.2.2.2.2.2.1).bind fun r =>
 some (j.1, j.2.1, j.2.2.1, j.2.2.2.1, r, j.2.2.2.2.2)
 else
 some (j.1, j.2.1, j.2.2.1, j.2.2.2.1, false, j.2.2.2.2.2)
 else
 some (j.1, j.2.1, j.2.2.1, j.2.2.2.1, false, j.2.2.2.2.2)).bind fun j2 =>
 bif j2.2.2.2.2.1 then
 (idxI j2.1 j2.2.2.2.1).bind fun x6 =>
 (z9z j2.2.2.2.2.2.2.2.2.2 x6.1).bind fun r2 =>
 some (.inl (j2.1, j2.2.1, j2.2.2.1, W64 (j2.2.2.2.1 + 1), (j2.2.2.2.2.2.1, j2.2.2.2.2.2.2.1, j2.2.2.2.2.2.2.2.1, j2.2.2.2.2.2.2.2.2.1, r2)))
 else
 some (.inl (j2.1, j2.2.1, j2.2.2.1, W64 (j2.2.2.2.1 + 1), j2.2.2.2.2.2))
 else
 some (.inr (l, out, i, x)))
def z0w (s : z5a) : Option (z5a ⊕ z9w) := z2c s.1 s.2.1 s.2.2.1 s.2.2.2.1 s.2.2.2.2
theorem zfk : SoundD Try.prog (.loop (subC (bodyC Try.f29) [1, 1, 0, 1, 0, 0, 1, 0, 0, 1, 1, 1, 1, 0, 1, 0, 0])) (loopD z2d.xe z2e (loopC z0w)) :=
 z0v (S := z2d.xe) (X := z2e) zo1 (h := (.two .no (.two (.join (fun _ => z3m) .no (.join (fun _ => z3h) .no .no)) .no))) (z0p [.xs (fun _ => z3m), .xs (fun _ => z3h)] (by kernel_rfl) ⟨(z2o zd7), (z2o zco), trivial⟩) (z0d z2d) zf8 z0w (fun s => by kernel_rfl)
def zjg : Shp := ⟨101, 0, [(3, .d c5)], []⟩
def z8p : XS := .one (.exit 0) zjg.xe
theorem ztz : z8p.OK := XS.one_ok (z0d zjg)
def z8k : Shp := ⟨101, 0, [(0, .d c3), (3, .d c5), (4, .d (.int .i64))], []⟩
abbrev zf5 := (List T1) × (List T2) × Int
abbrev zl8 := ((List T2))
def z8s (l : List T1) (out : List T2) (i : Int) : Option (zf5 ⊕ zl8) :=
 z0s (List.length l) (
 bif ltI i (List.length l : Nat) then
 (idxI l i).bind fun x =>
 (show Option (((List T1) × (List T2) × Int × T1) ⊕ ((List T1) × (List T2) × Int × Int × Bool × Int × Bool × T1)) from
 bif neI x.2.2.1 1 then
 bif neI x.2.2.1 2 then
 bif neI x.2.2.1 7 then
 some (.inr (l, out, i, x.2.2.1, neI x.2.2.1 2, x.2.2.1, neI x.2.2.1 7, x))
 else
 some (.inl (l, out, i, x))
 else
 some (.inl (l, out, i, x))
 else
 some (.inl (l, out, i, x))).bind fun j =>
 Sum.elim (fun y =>
 (show Option (((List T1) × (List T2) × Int × T2)) from
 bif eqI y.2.2.2.2.2.1 7 then
 some (y.1, y.2.1, y.2.2.1, (y.2.2.2.1, y.2.2.2.2.2.2.2.1, y.2.2.2.2.2.2.2.2.1, y.2.2.2.2.2.2.1, List.replicate 8 (0 : Int)))
 else
 some (y.1, y.2.1, y.2.2.1, (y.2.2.2.1, y.2.2.2.2.2.2.2.1, y.2.2.2.2.2.2.2.2.1, y.2.2.2.1, List.replicate 8 (0 : Int)))).bind fun j2 =>
 (loopC z0w (j2.1, j2.2.1, j2.2.2.1, 0, j2.2.2.2)).bind fun o =>
 (zgy o.2.1 o.2.2.2).bind fun r =>
 some (.inl (o.1, r, W64 (o.2.2.1 + 1)))) (fun y2 =>
 some (.inl (y2.1, y2.2.1, W64 (y2.2.2.1 + 1)))) j
 else
 some (.inr out))
def z2w (s : zf5) : Option (zf5 ⊕ zl8) := z8s s.1 s.2.1 s.2.2
theorem zuh : SoundD Try.prog (.loop (subC (bodyC Try.f29) [1, 1, 0, 1, 0, 0])) (loopD z8k.xe z8p (loopC z2w)) :=
 z0v (S := z8k.xe) (X := z8p) zo1 (h := (.two .no (.two (.two .no (.join (fun _ => zak) .no (.two .no (.join (fun _ => z8h) .no (.two (.two .no (.over (loopD z2d.xe z2e (loopC z0w)))) .no))))) .no))) (z0p [.xs (fun _ => zak), .xs (fun _ => z8h), .den (.loop (subC (bodyC Try.f29) [1, 1, 0, 1, 0, 0, 1, 0, 0, 1, 1, 1, 1, 0, 1, 0, 0])) (loopD z2d.xe z2e (loopC z0w))] (by kernel_rfl) ⟨(z2o zln), (z2o zj5), zfk, trivial⟩) (z0d z8k) ztz z2w (fun s => by kernel_rfl)
def zw3 : Shp := ⟨1, 0, [(0, .d c5)], []⟩
def z11w : XS := .one .ret zw3.xe
theorem z1bd : z11w.OK := XS.one_ok (z0d zw3)
def zes (l : List T1) : Option (((List T2))) :=
 (loopC z2w (l, [], 0)).bind fun o =>
 some o
def z11g : Sig := ⟨29, [.d c3], [], 0, z11w⟩
def zzo (x : (List T1)) : Option (((List T2))) := zes x
theorem z1g9 : FnOK Try.prog z11g zzo :=
 fn_ok zo1 (h := (.two .no (.two .no (.two (.two .no (.over (loopD z8k.xe z8p (loopC z2w)))) .no)))) Try.func29 (z0p [.den (.loop (subC (bodyC Try.f29) [1, 1, 0, 1, 0, 0])) (loopD z8k.xe z8p (loopC z2w))] (by kernel_rfl) ⟨zuh, trivial⟩) (by kernel_rfl) z1bd (fun x => by kernel_rfl)
def z1jr : Env := ⟨[], [], []⟩
theorem z1fz : EnvsOK Try.prog z1jr := ⟨z0x _, z0t _, z0u _⟩
def zzk : Shp := ⟨1, 0, [(0, .d .bool)], []⟩
def z13y : XS := .one .ret zzk.xe
theorem z1e0 : z13y.OK := XS.one_ok (z0d zzk)
def zfq (t0 : T1) : Option ((Bool)) :=
 bif eqI t0.2.2.1 3 then
 some true
 else
 bif eqI t0.2.2.1 4 then
 some true
 else
 some (eqI t0.2.2.1 5)
def ztw : Sig := ⟨77, [.d c9], [], 0, z13y⟩
def zsi (x : T1) : Option ((Bool)) := zfq x
theorem z12j : FnOK Try.prog ztw zsi :=
 fn_ok z1fz (h := .no) Try.func77 (z0p [] (by kernel_rfl) trivial) (by kernel_rfl) z1e0 (fun x => by kernel_rfl)
def z1n5 : Env := ⟨[], [], []⟩
theorem z14i : EnvsOK Try.prog z1n5 := ⟨z0x _, z0t _, z0u _⟩
def zop : Shp := ⟨25, 0, [(4, .pt 0 r8 [])], [.var 67 (.d c9)]⟩
def zp6 : Shp := ⟨25, 0, [(4, .pt 0 r8 []), (5, .d .bool)], [.var 67 (.d c9)]⟩
def zce : XS := .or (.exit 0) zop.xe (.one .ret zp6.xe)
theorem z10g : zce.OK := XS.or_ok (z0d zop) (XS.one_ok (z0d zp6))
def zcc : Shp := ⟨25, 0, [(0, .d c3), (3, .pt 0 r2 []), (4, .pt 1 r8 []), (6, .d (.int .i64))], [.var 43 (.d c0), .var 67 (.d c9)]⟩
abbrev zjq := (List T1) × Int × T0 × T1
abbrev zr7 := (T1) ⊕ (Bool × T1)
def zjt (l : List T1) (i : Int) (x : T0) (t4 : T1) : Option (zjq ⊕ zr7) :=
 z0s (List.length l) (
 bif ltI i (List.length l : Nat) then
 (idxI l i).bind fun x2 =>
 bif eqU c0 x2.1 x then
 (idxI l i).bind fun x3 =>
 some (.inr (.inr (true, x3)))
 else
 some (.inl (l, W64 (i + 1), x, t4))
 else
 some (.inr (.inl t4)))
def z7l (s : zjq) : Option (zjq ⊕ zr7) := zjt s.1 s.2.1 s.2.2.1 s.2.2.2
theorem z13b : SoundD Try.prog (.loop (subC (bodyC Try.f91) [1, 0, 1, 0, 0])) (loopD zcc.xe zce (loopC z7l)) :=
 z0v (S := zcc.xe) (X := zce) z14i (h := .no) (z0p [] (by kernel_rfl) trivial) (z0d zcc) z10g z7l (fun s => by kernel_rfl)
def z14t : Shp := ⟨1, 0, [(0, .tu [.d c9, .d .bool])], []⟩
def z1bn : XS := .one .ret z14t.xe
theorem z1ja : z1bn.OK := XS.one_ok (z0d z14t)
def zwt (l : List T1) (x : T0) : Option ((T1 × Bool)) :=
 (loopC z7l (l, 0, x, ((0, 0), List.replicate 8 (0 : Int), 0, (0, 0), (0, 0), [], [], [], 0, [], 0))).bind fun o =>
 Sum.elim (fun y =>
 some (((0, 0), List.replicate 8 (0 : Int), 0, (0, 0), (0, 0), [], [], [], 0, [], 0), false)) (fun y2 =>
 some (y2.2, y2.1)) o
def z1c3 : Sig := ⟨91, [.d c3, .d c0], [], 0, z1bn⟩
def z19t (x : (List T1) × T0) : Option ((T1 × Bool)) := zwt x.1 x.2
theorem z1lx : FnOK Try.prog z1c3 z19t :=
 fn_ok z14i (h := (.two .no (.two (.two .no (.over (loopD zcc.xe zce (loopC z7l)))) .no))) Try.func91 (z0p [.den (.loop (subC (bodyC Try.f91) [1, 0, 1, 0, 0])) (loopD zcc.xe zce (loopC z7l))] (by kernel_rfl) ⟨z13b, trivial⟩) (by kernel_rfl) z1ja (fun x => by kernel_rfl)
def z1m6 : Env := ⟨[], [], []⟩
theorem z12f : EnvsOK Try.prog z1m6 := ⟨z0x _, z0t _, z0u _⟩
def zlj : Shp := ⟨13, 0, [(3, .d .str)], []⟩
def zad : XS := .one (.exit 0) zlj.xe
theorem zvw : zad.OK := XS.one_ok (z0d zlj)
def zae : Shp := ⟨13, 0, [(0, .d (.int .i64)), (3, .d .str), (4, .d (.int .i64))], []⟩
abbrev zgf := Int × (List Int) × Int
abbrev znw := ((List Int))
def zgj (n : Int) (t3 : List Int) (i : Int) : Option (zgf ⊕ znw) :=
 bif ltI i n then
 catG t3 ([0] : List Int) fun _ =>
 some (.inl (n, t3 ++ ([0] : List Int), W64 (i + 1)))
 else
 some (.inr t3)
def z5k (s : zgf) : Option (zgf ⊕ znw) := zgj s.1 s.2.1 s.2.2
theorem zxo : SoundD Try.prog (.loop (subC (bodyC Try.f95) [1, 1, 0, 1, 0, 0])) (loopD zae.xe zad (loopC z5k)) :=
 z0v (S := zae.xe) (X := zad) z12f (h := .no) (z0p [] (by kernel_rfl) trivial) (z0d zae) zvw z5k (fun s => by kernel_rfl)
def z12m : Shp := ⟨1, 0, [(0, .d .str)], []⟩
def z18n : XS := .one .ret z12m.xe
theorem z1gd : z18n.OK := XS.one_ok (z0d z12m)
def zp5 (n : Int) : Option (((List Int))) :=
 (loopC z5k (n, ([] : List Int), 0)).bind fun o =>
 some o
def zw1 : Sig := ⟨95, [.d (.int .i64)], [], 0, z18n⟩
def zu4 (x : Int) : Option (((List Int))) := zp5 x
theorem z16f : FnOK Try.prog zw1 zu4 :=
 fn_ok z12f (h := (.two .no (.two .no (.two (.two .no (.over (loopD zae.xe zad (loopC z5k)))) .no)))) Try.func95 (z0p [.den (.loop (subC (bodyC Try.f95) [1, 1, 0, 1, 0, 0])) (loopD zae.xe zad (loopC z5k))] (by kernel_rfl) ⟨zxo, trivial⟩) (by kernel_rfl) z1gd (fun x => by kernel_rfl)
def z1pz : Env := ⟨[(entQ zw1 zu4)], [], []⟩
theorem z1m1 : EnvsOK Try.prog z1pz := ⟨z0o (z0q z16f) (z0x _), z0t _, z0u _⟩
def z19k : Shp := ⟨1, 0, [(0, .tu [.d .str, .d (.int .i64)])], []⟩
def z1f4 : XS := .one .ret z19k.xe
theorem z1k3 : z1f4.OK := XS.one_ok (z0d z19k)
def z11q (data : List Int) (n : Int) : Option (((List Int) × Int)) :=
 bif ltI n 0 then
 some (([] : List Int), 4)
 else
 bif ltI 200 n then
 some (([] : List Int), 4)
 else
 z0s (List.length data) (
 (zp5 (W64 (n - (List.length data : Nat)))).bind fun r =>
 catG data r fun _ =>
 bif subOk 0 n (List.length (data ++ r)) then
 some (subL (data ++ r) 0 n, 0)
 else none)
def z1f1 : Sig := ⟨92, [.d .str, .d (.int .i64)], [], 0, z1f4⟩
def z1bu (x : (List Int) × Int) : Option (((List Int) × Int)) := z11q x.1 x.2
theorem z1ot : FnOK Try.prog z1f1 z1bu :=
 fn_ok z1m1 (h := .no) Try.func92 (z0p [] (by kernel_rfl) trivial) (by kernel_rfl) z1k3 (fun x => by kernel_rfl)
def z1mg : Env := ⟨[(entQ zw1 zu4)], [], []⟩
theorem z1j7 : EnvsOK Try.prog z1mg := ⟨z0o (z0q z16f) (z0x _), z0t _, z0u _⟩
def z10v : Shp := ⟨1, 0, [(0, .tu [.d .str, .d (.int .i64)])], []⟩
def z18z : XS := .one .ret z10v.xe
theorem z1gb : z18z.OK := XS.one_ok (z0d z10v)
def zu6 (data : List Int) (off : Int) (t2 : List Int) : Option (((List Int) × Int)) :=
 bif ltI off 0 then
 some (([] : List Int), 4)
 else
 bif ltI 200 off then
 some (([] : List Int), 4)
 else
 z0s (List.length data) (
 bif ltI 200 (List.length data : Nat) then
 some (([] : List Int), 4)
 else
 z0s (List.length t2) (
 bif ltI 200 (W64 (off + (List.length t2 : Nat))) then
 some (([] : List Int), 4)
 else
 z0s (List.length t2) (
 z0s (List.length data) (
 (zp5 (W64 ((W64 (off + (List.length t2 : Nat))) - (List.length data : Nat)))).bind fun r =>
 catG data r fun _ =>
 bif subOk 0 off (List.length (data ++ r)) then
 catG (subL (data ++ r) 0 off) t2 fun _ =>
 z0s (List.length t2) (
 bif subOk (W64 (off + (List.length t2 : Nat))) (List.length (data ++ r) : Nat) (List.length (data ++ r)) then
 catG ((subL (data ++ r) 0 off) ++ t2) (subL (data ++ r) (W64 (off + (List.length t2 : Nat))) (List.length (data ++ r) : Nat)) fun _ =>
 some ((((subL (data ++ r) 0 off) ++ t2) ++ (subL (data ++ r) (W64 (off + (List.length t2 : Nat))) (List.length (data ++ r) : Nat)), 0))
 else none)
 else none))))
def z19f : Sig := ⟨93, [.d .str, .d (.int .i64), .d .str], [], 0, z18z⟩
def z15c (x : (List Int) × Int × (List Int)) : Option (((List Int) × Int)) := zu6 x.1 x.2.1 x.2.2
theorem z1jy : FnOK Try.prog z19f z15c :=
 fn_ok z1j7 (h := .no) Try.func93 (z0p [] (by kernel_rfl) trivial) (by kernel_rfl) z1gb (fun x => by kernel_rfl)
def z10x : Shp := ⟨1, 0, [(0, .d .str)], []⟩
def z1a1 : XS := .one .ret z10x.xe
theorem zyx : z1a1.OK := XS.one_ok (z0d z10x)
def zke : Sig := ⟨78, [.d c3, .d c0], [], 0, z1a1⟩
def z1m0 (self : (List T1) × T0 → Option (((List Int)))) : Env := ⟨[(entQ z1c3 z19t), (entQ zke self), (entQ z1f1 z1bu), (entQ z19f z15c)], [], []⟩
theorem z1i0 {self : (List T1) × T0 → Option (((List Int)))} (hself : FnOK Try.prog zke self) : EnvsOK Try.prog (z1m0 self) := ⟨z0o (z0q z1lx) (z0o (z0q hself) (z0o (z0q z1ot) (z0o (z0q z1jy) (z0x _)))), z0t _, z0u _⟩
def zmd : Shp := ⟨56, 0, [(5, .pt 0 r8 []), (7, .d .str)], [.var 67 (.d c9)]⟩
def zhm : XS := .one .normal zmd.xe
theorem zxh : zhm.OK := XS.one_ok (z0d zmd)
def zpg (self : (List T1) × T0 → Option (((List Int)))) (l : List T1) (x : T0) : Option (((List Int))) :=
 (zwt l x).bind fun r =>
 bif !r.2 then
 some ([] : List Int)
 else
 bif eqI r.1.2.2.1 5 then
 some r.1.2.2.2.2.2.2.2.2.2.1
 else
 (show Option (((List Int) × T1)) from
 z0s (List.length r.1.2.2.2.2.2.2.2.1) (
 bif ltI 0 (List.length r.1.2.2.2.2.2.2.2.1 : Nat) then
 (idxI r.1.2.2.2.2.2.2.2.1 0).bind fun x2 =>
 (self (l, x2)).bind fun r2 =>
 some (r2, r.1)
 else
 some (([] : List Int), r.1))).bind fun j =>
 bif eqI j.2.2.2.1 4 then
 (z11q j.1 j.2.2.2.2.2.2.2.2.2.1).bind fun r3 =>
 some r3.1
 else
 (zu6 j.1 j.2.2.2.2.2.2.2.2.2.1 j.2.2.2.2.2.2.2.2.2.2.1).bind fun r4 =>
 some r4.1
def zka (self : (List T1) × T0 → Option (((List Int)))) (x : (List T1) × T0) : Option (((List Int))) := zpg self x.1 x.2
def zn3 : ((List T1) × T0) → Option (((List Int))) := recC zka
def z12s (l : List T1) (x : T0) : Option (((List Int))) := zn3 (l, x)
theorem z15r : FnOK Try.prog zke zn3 :=
 z1yl (by kernel_rfl) zyx (fun self hself => fn_ok (z1i0 hself) (h := (.two .no (.two .no (.two .no (.two .no (.two .no (.join (fun _ => zhm) .no .no))))))) Try.func78 (z0p [.xs (fun _ => zhm)] (by kernel_rfl) ⟨(z2o zxh), trivial⟩) (by kernel_rfl) zyx (fun x => by kernel_rfl))
def z1p3 : Env := ⟨[], [], []⟩
theorem z14x : EnvsOK Try.prog z1p3 := ⟨z0x _, z0t _, z0u _⟩
def z11l : Shp := ⟨33, 0, [(0, .d c10), (3, .pt 0 r2 [])], [.var 43 (.d c0)]⟩
def z12a : Shp := ⟨33, 0, [(4, .d .str), (5, .d (.int .i64))], []⟩
def zvt : XS := .or .normal z11l.xe (.one .ret z12a.xe)
theorem z1g2 : zvt.OK := XS.or_ok (z0d z11l) (XS.one_ok (z0d z12a))
def zmr : Shp := ⟨33, 0, [], []⟩
def zmg : Shp := ⟨33, 0, [(4, .d .str), (5, .d (.int .i64))], []⟩
def zas : XS := .or (.exit 0) zmr.xe (.one .ret zmg.xe)
theorem zwv : zas.OK := XS.or_ok (z0d zmr) (XS.one_ok (z0d zmg))
def zau : Shp := ⟨33, 0, [(0, .d c10), (3, .pt 0 r2 []), (6, .d (.int .i64))], [.var 43 (.d c0)]⟩
abbrev zhv := (List T3) × Int × T0
abbrev zoz := (Unit) ⊕ ((List Int) × Int)
def zhh (l : List T3) (i : Int) (id : T0) : Option (zhv ⊕ zoz) :=
 z0s (List.length l) (
 bif ltI i (List.length l : Nat) then
 (idxI l i).bind fun x =>
 bif eqU c0 x.1 id then
 (idxI l i).bind fun x2 =>
 some (.inr (.inr (x2.2.1, 0)))
 else
 some (.inl (l, W64 (i + 1), id))
 else
 some (.inr (.inl ())))
def z4o (s : zhv) : Option (zhv ⊕ zoz) := zhh s.1 s.2.1 s.2.2
theorem zzr : SoundD Try.prog (.loop (subC (bodyC Try.f60) [1, 1, 0, 1, 0, 0])) (loopD zau.xe zas (loopC z4o)) :=
 z0v (S := zau.xe) (X := zas) z14x (h := .no) (z0p [] (by kernel_rfl) trivial) (z0d zau) zwv z4o (fun s => by kernel_rfl)
def z15q : Shp := ⟨1, 0, [(0, .tu [.d .str, .d (.int .i64)])], []⟩
def z1at : XS := .one .ret z15q.xe
theorem z1hr : z1at.OK := XS.one_ok (z0d z15q)
def zs2 (l : List T3) (id : T0) : Option (((List Int) × Int)) :=
 (show Option (((List T3) × T0) ⊕ ((List Int) × Int)) from
 bif eqI id.1 0 then
 bif eqI id.2 0 then
 some (.inr (([] : List Int), 0))
 else
 some (.inl (l, id))
 else
 some (.inl (l, id))).bind fun j =>
 Sum.elim (fun y =>
 (loopC z4o (y.1, 0, y.2)).bind fun o =>
 Sum.elim (fun y3 =>
 some (([] : List Int), 2)) (fun y4 =>
 some (y4.1, y4.2)) o) (fun y2 =>
 some (y2.1, y2.2)) j
def zyo : Sig := ⟨60, [.d c10, .d c0], [], 0, z1at⟩
def zvu (x : (List T3) × T0) : Option (((List Int) × Int)) := zs2 x.1 x.2
theorem z18k : FnOK Try.prog zyo zvu :=
 fn_ok z14x (h := (.two .no (.join (fun _ => zvt) .no (.two (.two .no (.over (loopD zau.xe zas (loopC z4o)))) .no)))) Try.func60 (z0p [.xs (fun _ => zvt), .den (.loop (subC (bodyC Try.f60) [1, 1, 0, 1, 0, 0])) (loopD zau.xe zas (loopC z4o))] (by kernel_rfl) ⟨(z2o z1g2), zzr, trivial⟩) (by kernel_rfl) z1hr (fun x => by kernel_rfl)
def z1qb : Env := ⟨[], [], []⟩
theorem z18t : EnvsOK Try.prog z1qb := ⟨z0x _, z0t _, z0u _⟩
def zq1 : Shp := ⟨19, 0, [], []⟩
def zqj : Shp := ⟨19, 0, [(4, .d .bool)], []⟩
def zd5 : XS := .or (.exit 0) zq1.xe (.one .ret zqj.xe)
theorem z12z : zd5.OK := XS.or_ok (z0d zq1) (XS.one_ok (z0d zqj))
def zd8 : Shp := ⟨19, 0, [(0, .d c10), (3, .pt 0 r2 []), (5, .d (.int .i64))], [.var 43 (.d c0)]⟩
abbrev zkx := (List T3) × Int × T0
abbrev zta := (Unit) ⊕ (Bool)
def zky (l : List T3) (i : Int) (id : T0) : Option (zkx ⊕ zta) :=
 z0s (List.length l) (
 bif ltI i (List.length l : Nat) then
 (idxI l i).bind fun x =>
 bif eqU c0 x.1 id then
 some (.inr (.inr true))
 else
 some (.inl (l, W64 (i + 1), id))
 else
 some (.inr (.inl ())))
def z8i (s : zkx) : Option (zkx ⊕ zta) := zky s.1 s.2.1 s.2.2
theorem z13p : SoundD Try.prog (.loop (subC (bodyC Try.f94) [1, 0, 1, 0, 0])) (loopD zd8.xe zd5 (loopC z8i)) :=
 z0v (S := zd8.xe) (X := zd5) z18t (h := .no) (z0p [] (by kernel_rfl) trivial) (z0d zd8) z12z z8i (fun s => by kernel_rfl)
def z18w : Shp := ⟨1, 0, [(0, .d .bool)], []⟩
def z1fe : XS := .one .ret z18w.xe
theorem z1kl : z1fe.OK := XS.one_ok (z0d z18w)
def zv2 (l : List T3) (id : T0) : Option ((Bool)) :=
 (loopC z8i (l, 0, id)).bind fun o =>
 Sum.elim (fun y =>
 some false) (fun y2 =>
 some y2) o
def z1f3 : Sig := ⟨94, [.d c10, .d c0], [], 0, z1fe⟩
def z1bx (x : (List T3) × T0) : Option ((Bool)) := zv2 x.1 x.2
theorem z1p0 : FnOK Try.prog z1f3 z1bx :=
 fn_ok z18t (h := (.two .no (.two (.two .no (.over (loopD zd8.xe zd5 (loopC z8i)))) .no))) Try.func94 (z0p [.den (.loop (subC (bodyC Try.f94) [1, 0, 1, 0, 0])) (loopD zd8.xe zd5 (loopC z8i))] (by kernel_rfl) ⟨z13p, trivial⟩) (by kernel_rfl) z1kl (fun x => by kernel_rfl)
def z1pt : Env := ⟨[(entQ zyo zvu), (entQ z1f3 z1bx), (entQ zbq zaq), (entQ z9e z7t)], [], []⟩
theorem zpj : EnvsOK Try.prog z1pt := ⟨z0o (z0q z18k) (z0o (z0q z1p0) (z0o (z0q zc5) (z0o (z0q z9u) (z0x _)))), z0t _, z0u _⟩
def zqp : Shp := ⟨118, 0, [(0, .d c10), (1, .d c4), (5, .pt 0 r12 [])], [.var 85 (.d c11)]⟩
def zq4 : Shp := ⟨118, 0, [(6, .d c10), (7, .d (.int .i64))], []⟩
def zd4 : XS := .or (.exit 0) zqp.xe (.one .ret zq4.xe)
theorem z13c : zd4.OK := XS.or_ok (z0d zqp) (XS.one_ok (z0d zq4))
def zd6 : Shp := ⟨118, 0, [(0, .d c10), (1, .d c4), (5, .pt 0 r12 []), (8, .d (.int .i64))], [.var 85 (.d c11)]⟩
abbrev zl5 := (List T3) × (List T0) × Int × T3
abbrev zt0 := ((List T3) × (List T0) × T3) ⊕ ((List T3) × Int)
def zt3 (l : List T3) (base : List T0) (i : Int) (v : T3) : Option (zl5 ⊕ zt0) :=
 z0s (List.length base) (
 bif ltI i (List.length base : Nat) then
 (idxI base i).bind fun x =>
 (zs2 l x).bind fun r =>
 bif neI r.2 0 then
 some (.inr (.inr ([], 2)))
 else
 (idxI base i).bind fun x2 =>
 bif eqI x2.1 0 then
 (idxI base i).bind fun x3 =>
 bif eqI x3.2 0 then
 (idxI base i).bind fun x4 =>
 (zv2 l x4).bind fun r2 =>
 bif !r2 then
 some (.inr (.inr ([], 2)))
 else
 some (.inl (l, base, W64 (i + 1), v))
 else
 some (.inl (l, base, W64 (i + 1), v))
 else
 some (.inl (l, base, W64 (i + 1), v))
 else
 some (.inr (.inl (l, base, v))))
def z8g (s : zl5) : Option (zl5 ⊕ zt0) := zt3 s.1 s.2.1 s.2.2.1 s.2.2.2
theorem z15e : SoundD Try.prog (.loop (subC (bodyC Try.f79) [1, 0, 1, 0, 0])) (loopD zd6.xe zd4 (loopC z8g)) :=
 z0v (S := zd6.xe) (X := zd4) zpj (h := .no) (z0p [] (by kernel_rfl) trivial) (z0d zd6) z13c z8g (fun s => by kernel_rfl)
def zec : Shp := ⟨118, 0, [(0, .d c10), (1, .d c4), (5, .pt 0 r12 []), (11, .wn 1 c11), (12, .d .bool), (13, .d (.int .i64))], [.var 85 (.d c11), .row 85 c11]⟩
def zal : XS := .one .normal zec.xe
theorem zlm : zal.OK := XS.one_ok (z0d zec)
def zd2 : Shp := ⟨118, 0, [(0, .d c10), (1, .d c4), (5, .pt 0 r12 []), (11, .wn 1 c11), (12, .d .bool), (13, .d (.int .i64)), (79, .d .bool)], [.var 85 (.d c11), .row 85 c11]⟩
def z9g : XS := .one .normal zd2.xe
theorem zkj : z9g.OK := XS.one_ok (z0d zd2)
def z9v : Shp := ⟨118, 0, [(0, .d c10), (1, .d c4), (5, .pt 0 r12 []), (11, .wn 1 c11), (12, .d .bool), (13, .d (.int .i64)), (14, .pt 2 r12 [])], [.var 85 (.d c11), .row 85 c11, .var 85 (.d c11)]⟩
def z2j : XS := .one (.exit 4) z9v.xe
theorem zg1 : z2j.OK := XS.one_ok (z0d z9v)
def z2i : Shp := ⟨118, 0, [(0, .d c10), (1, .d c4), (5, .pt 0 r12 []), (11, .wn 1 c11), (12, .d .bool), (13, .d (.int .i64)), (14, .pt 2 r12 []), (15, .d (.int .i64))], [.var 85 (.d c11), .row 85 c11, .var 85 (.d c11)]⟩
abbrev z5l := (List T3) × (List T0) × Bool × Int × Int × T3 × (List T3) × T3
abbrev zao := ((List T3) × (List T0) × Bool × Int × T3 × (List T3) × T3)
def zap (l : List T3) (base : List T0) (put : Bool) (i : Int) (k : Int) (v : T3) (out : List T3) (x : T3) : Option (z5l ⊕ zao) :=
 z0s (List.length base) (
 bif ltI k (List.length base : Nat) then
 (idxI base k).bind fun x2 =>
 bif eqU c0 x2 x.1 then
 (z9z x.2.2 v.1).bind fun r =>
 bif Nat.beq (List.length out) (List.length out) then
 some (.inl (l, base, put, i, W64 (k + 1), v, out, (x.1, x.2.1, r)))
 else none
 else
 bif Nat.beq (List.length out) (List.length out) then
 some (.inl (l, base, put, i, W64 (k + 1), v, out, x))
 else none
 else
 bif Nat.beq (List.length out) (List.length out) then
 some (.inr (l, base, put, i, v, out, x))
 else none)
def z1k (s : z5l) : Option (z5l ⊕ zao) := zap s.1 s.2.1 s.2.2.1 s.2.2.2.1 s.2.2.2.2.1 s.2.2.2.2.2.1 s.2.2.2.2.2.2.1 s.2.2.2.2.2.2.2
theorem zg7 : SoundD Try.prog (.loop (subC (bodyC Try.f79) [1, 1, 1, 1, 1, 0, 1, 0, 0, 1, 0, 0, 1, 1, 0, 1, 0, 0])) (loopD z2i.xe z2j (loopC z1k)) :=
 z0v (S := z2i.xe) (X := z2j) zpj (h := .no) (z0p [] (by kernel_rfl) trivial) (z0d z2i) zg1 z1k (fun s => by kernel_rfl)
def zi9 : Shp := ⟨118, 0, [(5, .pt 0 r12 []), (11, .wn 1 c11), (12, .d .bool)], [.var 85 (.d c11), .row 85 c11]⟩
def z7b : XS := .one (.exit 2) zi9.xe
theorem zrg : z7b.OK := XS.one_ok (z0d zi9)
def z7c : Shp := ⟨118, 0, [(0, .d c10), (1, .d c4), (5, .pt 0 r12 []), (11, .wn 1 c11), (12, .d .bool), (13, .d (.int .i64))], [.var 85 (.d c11), .row 85 c11]⟩
abbrev zea := (List T3) × (List T0) × Bool × Int × T3 × (List T3)
abbrev zj9 := (Bool × T3 × (List T3))
def zdt (l : List T3) (base : List T0) (put : Bool) (i : Int) (v : T3) (out : List T3) : Option (zea ⊕ zj9) :=
 z0s (List.length l) (
 bif ltI i (List.length l : Nat) then
 (show Option (((List T3) × (List T0) × Bool × Int × T3 × (List T3))) from
 (show Option (((List T3) × (List T0) × Bool × Int × Bool × T3 × (List T3))) from
 bif !put then
 (idxI l i).bind fun x =>
 (zbg v.1 x.1).bind fun r =>
 bif Nat.beq (List.length out) (List.length out) then
 some (l, base, put, i, r, v, out)
 else none
 else
 bif Nat.beq (List.length out) (List.length out) then
 some (l, base, put, i, false, v, out)
 else none).bind fun j =>
 bif j.2.2.2.2.1 then
 bif Nat.beq (List.length j.2.2.2.2.2.2) (List.length j.2.2.2.2.2.2) then
 appG (List.length j.2.2.2.2.2.2) (List.length ([j.2.2.2.2.2.1] : List T3)) 64 fun _ =>
 bif Nat.beq (List.length (j.2.2.2.2.2.2 ++ ([j.2.2.2.2.2.1] : List T3))) (List.length (j.2.2.2.2.2.2 ++ ([j.2.2.2.2.2.1] : List T3))) then
 some (j.1, j.2.1, true, j.2.2.2.1, j.2.2.2.2.2.1, j.2.2.2.2.2.2 ++ ([j.2.2.2.2.2.1] : List T3))
 else none
 else none
 else
 bif Nat.beq (List.length j.2.2.2.2.2.2) (List.length j.2.2.2.2.2.2) then
 some (j.1, j.2.1, j.2.2.1, j.2.2.2.1, j.2.2.2.2.2.1, j.2.2.2.2.2.2)
 else none).bind fun j2 =>
 (idxI j2.1 j2.2.2.2.1).bind fun x2 =>
 bif Nat.beq (List.length j2.2.2.2.2.2) (List.length j2.2.2.2.2.2) then
 (loopC z1k (j2.1, j2.2.1, j2.2.2.1, j2.2.2.2.1, 0, j2.2.2.2.2.1, j2.2.2.2.2.2, x2)).bind fun o =>
 bif Nat.beq (List.length o.2.2.2.2.2.1) (List.length o.2.2.2.2.2.1) then
 appG (List.length o.2.2.2.2.2.1) (List.length ([o.2.2.2.2.2.2] : List T3)) 64 fun _ =>
 bif Nat.beq (List.length (o.2.2.2.2.2.1 ++ ([o.2.2.2.2.2.2] : List T3))) (List.length (o.2.2.2.2.2.1 ++ ([o.2.2.2.2.2.2] : List T3))) then
 some (.inl (o.1, o.2.1, o.2.2.1, W64 (o.2.2.2.1 + 1), o.2.2.2.2.1, o.2.2.2.2.2.1 ++ ([o.2.2.2.2.2.2] : List T3)))
 else none
 else none
 else none
 else
 bif Nat.beq (List.length out) (List.length out) then
 some (.inr (put, v, out))
 else none)
def z3p (s : zea) : Option (zea ⊕ zj9) := zdt s.1 s.2.1 s.2.2.1 s.2.2.2.1 s.2.2.2.2.1 s.2.2.2.2.2
theorem zsv : SoundD Try.prog (.loop (subC (bodyC Try.f79) [1, 1, 1, 1, 1, 0, 1, 0, 0])) (loopD z7c.xe z7b (loopC z3p)) :=
 z0v (S := z7c.xe) (X := z7b) zpj (h := (.two .no (.two (.join (fun _ => zal) (.join (fun _ => z9g) .no .no) (.two .no (.two (.two .no (.over (loopD z2i.xe z2j (loopC z1k)))) .no))) .no))) (z0p [.xs (fun _ => zal), .xs (fun _ => z9g), .den (.loop (subC (bodyC Try.f79) [1, 1, 1, 1, 1, 0, 1, 0, 0, 1, 0, 0, 1, 1, 0, 1, 0, 0])) (loopD z2i.xe z2j (loopC z1k))] (by kernel_rfl) ⟨(z2o zlm), (z2o zkj), zg7, trivial⟩) (z0d z7c) zrg z3p (fun s => by kernel_rfl)
def z19s : Shp := ⟨1, 0, [(0, .tu [.d c10, .d (.int .i64)])], []⟩
def z1f9 : XS := .one .ret z19s.xe
theorem z1kb : z1f9.OK := XS.one_ok (z0d z19s)
def zv7 (l : List T3) (base : List T0) (v : T3) : Option (((List T3) × Int)) :=
 (loopC z8g (l, base, 0, v)).bind fun o =>
 Sum.elim (fun y =>
 (zv2 y.1 y.2.2.1).bind fun r =>
 bif r then
 some ([], 11)
 else
 bif Nat.beq 0 (List.length ([] : List T3)) then
 (loopC z3p (y.1, y.2.1, false, 0, y.2.2, ([] : List T3))).bind fun o2 =>
 bif !o2.1 then
 bif Nat.beq (List.length o2.2.2) (List.length o2.2.2) then
 appG (List.length o2.2.2) (List.length ([o2.2.1] : List T3)) 64 fun _ =>
 winK (o2.2.2 ++ ([o2.2.1] : List T3)) 0 (List.length (o2.2.2 ++ ([o2.2.1] : List T3))) fun w =>
 some (w, 0)
 else none
 else
 winK o2.2.2 0 (List.length o2.2.2) fun w2 =>
 some (w2, 0)
 else none) (fun y2 =>
 some (y2.1, y2.2)) o
def z12y : Sig := ⟨79, [.d c10, .d c4, .d c11], [], 0, z1f9⟩
def zzy (x : (List T3) × (List T0) × T3) : Option (((List T3) × Int)) := zv7 x.1 x.2.1 x.2.2
theorem z1bg : FnOK Try.prog z12y zzy :=
 fn_ok zpj (h := (.two .no (.two (.two .no (.over (loopD zd6.xe zd4 (loopC z8g)))) (.two .no (.two .no (.two .no (.two (.two .no (.over (loopD z7c.xe z7b (loopC z3p)))) .no))))))) Try.func79 (z0p [.den (.loop (subC (bodyC Try.f79) [1, 0, 1, 0, 0])) (loopD zd6.xe zd4 (loopC z8g)), .den (.loop (subC (bodyC Try.f79) [1, 1, 1, 1, 1, 0, 1, 0, 0])) (loopD z7c.xe z7b (loopC z3p))] (by kernel_rfl) ⟨z15e, zsv, trivial⟩) (by kernel_rfl) z1kb (fun x => by kernel_rfl)
def z1gp : Env := ⟨[(entQ ztw zsi), (entQ zke zn3), (entQ zs3 zol), (entQ z9e z7t), (entQ z12y zzy)], [], []⟩
theorem zm4 : EnvsOK Try.prog z1gp := ⟨z0o (z0q z12j) (z0o (z0q z15r) (z0o (z0q zu5) (z0o (z0q z9u) (z0o (z0q z1bg) (z0x _))))), z0t _, z0u _⟩
def z7n : Shp := ⟨89, 0, [(0, .d c3), (3, .pt 0 r2 []), (5, .d c10), (6, .d (.int .i64)), (7, .pt 1 r12 []), (8, .d (.int .i64)), (22, .d c3), (23, .d (.int .i64)), (24, .rf (.d c9)), (25, .rf (.d c0)), (26, .d c0), (27, .d c0), (28, .d .bool), (72, .d .bool)], [.var 43 (.d c0), .var 85 (.d c11)]⟩
def z4e : XS := .one .normal z7n.xe
theorem ze5 : z4e.OK := XS.one_ok (z0d z7n)
def za5 : Shp := ⟨89, 0, [(0, .d c3), (3, .pt 0 r2 []), (5, .d c10), (6, .d (.int .i64)), (7, .pt 1 r12 []), (22, .d c3), (23, .d (.int .i64)), (24, .rf (.d c9)), (25, .rf (.d c0)), (26, .d c0), (27, .d c0), (28, .d .bool)], [.var 43 (.d c0), .var 85 (.d c11)]⟩
def z2m : XS := .one (.exit 2) za5.xe
theorem zg6 : z2m.OK := XS.one_ok (z0d za5)
def z2n : Shp := ⟨89, 0, [(0, .d c3), (3, .pt 0 r2 []), (5, .d c10), (6, .d (.int .i64)), (7, .pt 1 r12 []), (8, .d (.int .i64)), (22, .d c3), (23, .d (.int .i64)), (24, .rf (.d c9)), (25, .rf (.d c0)), (26, .d c0), (27, .d c0), (28, .d .bool)], [.var 43 (.d c0), .var 85 (.d c11)]⟩
abbrev z5x := (List T1) × (List T3) × Int × Int × (List T1) × Int × T1 × T0 × T0 × T0 × Bool × T0 × T3
abbrev zaw := ((List T1) × (List T3) × Int × (List T1) × Int × T1 × T0 × T0 × T0 × Bool × T0 × T3)
def z5w (l : List T1) (out : List T3) (i : Int) (k : Int) (t22 : List T1) (t23 : Int) (t24 : T1) (t25 : T0) (t26 : T0) (t27 : T0) (t28 : Bool) (obj : T0) (v : T3) : Option (z5x ⊕ zaw) :=
 z0s (List.length l) (
 bif ltI k (List.length l : Nat) then
 (show Option (((List T1) × (List T3) × Int × Int × (List T1) × Int × T1 × T0 × T0 × T0 × Bool × Bool × T0 × T3)) from
 (idxI l k).bind fun x =>
 (zfq x).bind fun r =>
 bif r then
 (idxI l k).bind fun x2 =>
 bif eqU c0 x2.2.2.2.1 obj then
 (idxI l k).bind fun x3 =>
 (zhu x3.2.2.2.2.2.2.2.1 v.1).bind fun r2 =>
 some (l, out, i, k, t22, t23, t24, t25, t26, t27, t28, r2, obj, v)
 else
 some (l, out, i, k, t22, t23, t24, t25, t26, t27, t28, false, obj, v)
 else
 some (l, out, i, k, t22, t23, t24, t25, t26, t27, t28, false, obj, v)).bind fun j =>
 bif j.2.2.2.2.2.2.2.2.2.2.2.1 then
 (idxI j.1 j.2.2.2.1).bind fun x4 =>
 (z9z j.2.2.2.2.2.2.2.2.2.2.2.2.2.2.2 x4.1).bind fun r3 =>
 some (.inl (j.1, j.2.1, j.2.2.1, W64 (j.2.2.2.1 + 1), j.2.2.2.2.1, j.2.2.2.2.2.1, j.2.2.2.2.2.2.1, j.2.2.2.2.2.2.2.1, j.2.2.2.2.2.2.2.2.1, j.2.2.2.2.2.2.2.2.2.1, j.2.2.2.2.2.2.2.2.2.2.1, j.2.2.2.2.2.2.2.2.2.2.2.2.1, (j.2.2.2.2.2.2.2.2.2.2.2.2.2.1, j.2.2.2.2.2.2.2.2.2.2.2.2.2.2.1, r3)))
 else
 some (.inl (j.1, j.2.1, j.2.2.1, W64 (j.2.2.2.1 + 1), j.2.2.2.2.1, j.2.2.2.2.2.1, j.2.2.2.2.2.2.1, j.2.2.2.2.2.2.2.1, j.2.2.2.2.2.2.2.2.1, j.2.2.2.2.2.2.2.2.2.1, j.2.2.2.2.2.2.2.2.2.2.1, j.2.2.2.2.2.2.2.2.2.2.2.2.1, j.2.2.2.2.2.2.2.2.2.2.2.2.2))
 else
 some (.inr (l, out, i, t22, t23, t24, t25, t26, t27, t28, obj, v)))
def z1h (s : z5x) : Option (z5x ⊕ zaw) := z5w s.1 s.2.1 s.2.2.1 s.2.2.2.1 s.2.2.2.2.1 s.2.2.2.2.2.1 s.2.2.2.2.2.2.1 s.2.2.2.2.2.2.2.1 s.2.2.2.2.2.2.2.2.1 s.2.2.2.2.2.2.2.2.2.1 s.2.2.2.2.2.2.2.2.2.2.1 s.2.2.2.2.2.2.2.2.2.2.2.1 s.2.2.2.2.2.2.2.2.2.2.2.2
theorem zgh : SoundD Try.prog (.loop (subC (bodyC Try.f55) [1, 1, 0, 1, 0, 0, 1, 0, 0, 1, 1, 0, 1, 0, 0])) (loopD z2n.xe z2m (loopC z1h)) :=
 z0v (S := z2n.xe) (X := z2m) zm4 (h := (.two .no (.two (.join (fun _ => z4e) .no .no) .no))) (z0p [.xs (fun _ => z4e)] (by kernel_rfl) ⟨(z2o ze5), trivial⟩) (z0d z2n) zg6 z1h (fun s => by kernel_rfl)
def zj1 : Shp := ⟨89, 0, [(5, .d c10)], []⟩
def z7o : XS := .one (.exit 0) zj1.xe
theorem zsr : z7o.OK := XS.one_ok (z0d zj1)
def z7u : Shp := ⟨89, 0, [(0, .d c3), (3, .pt 0 r2 []), (5, .d c10), (6, .d (.int .i64))], [.var 43 (.d c0)]⟩
abbrev zeq := (List T1) × (List T3) × Int × T0
abbrev zki := ((List T3))
def zeo (l : List T1) (out : List T3) (i : Int) (obj : T0) : Option (zeq ⊕ zki) :=
 z0s (List.length l) (
 bif ltI i (List.length l : Nat) then
 (idxI l i).bind fun x =>
 (zfq x).bind fun r =>
 bif !r then
 some (.inl (l, out, W64 (i + 1), obj))
 else
 (idxI l i).bind fun x2 =>
 bif !(eqU c0 x2.2.2.2.1 obj) then
 some (.inl (l, out, W64 (i + 1), obj))
 else
 (idxI l i).bind fun x3 =>
 (idxI l i).bind fun x4 =>
 (z12s l x4.1).bind fun r2 =>
 (loopC z1h (l, out, i, 0, l, i, x2, x2.2.2.2.1, x2.2.2.2.1, obj, !(eqU c0 x2.2.2.2.1 obj), obj, (x3.1, r2, List.replicate 8 (0 : Int)))).bind fun o =>
 (zv7 o.2.1 [] o.2.2.2.2.2.2.2.2.2.2.2).bind fun r3 =>
 some (.inl (o.1, r3.1, W64 (o.2.2.1 + 1), o.2.2.2.2.2.2.2.2.2.2.1))
 else
 some (.inr out))
def z3w (s : zeq) : Option (zeq ⊕ zki) := zeo s.1 s.2.1 s.2.2.1 s.2.2.2
theorem ztk : SoundD Try.prog (.loop (subC (bodyC Try.f55) [1, 1, 0, 1, 0, 0])) (loopD z7u.xe z7o (loopC z3w)) :=
 z0v (S := z7u.xe) (X := z7o) zm4 (h := (.two .no (.two (.two .no (.two .no (.two (.two .no (.over (loopD z2n.xe z2m (loopC z1h)))) .no))) .no))) (z0p [.den (.loop (subC (bodyC Try.f55) [1, 1, 0, 1, 0, 0, 1, 0, 0, 1, 1, 0, 1, 0, 0])) (loopD z2n.xe z2m (loopC z1h))] (by kernel_rfl) ⟨zgh, trivial⟩) (z0d z7u) zsr z3w (fun s => by kernel_rfl)
def zvg : Shp := ⟨1, 0, [(0, .d c10)], []⟩
def zyg : XS := .one .ret zvg.xe
theorem z1a8 : zyg.OK := XS.one_ok (z0d zvg)
def zn8 (l : List T1) (obj : T0) : Option (((List T3))) :=
 (loopC z3w (l, [], 0, obj)).bind fun o =>
 some o
def zyl : Sig := ⟨55, [.d c3, .d c0], [], 0, zyg⟩
def zwm (x : (List T1) × T0) : Option (((List T3))) := zn8 x.1 x.2
theorem z1ea : FnOK Try.prog zyl zwm :=
 fn_ok zm4 (h := (.two .no (.two .no (.two (.two .no (.over (loopD z7u.xe z7o (loopC z3w)))) .no)))) Try.func55 (z0p [.den (.loop (subC (bodyC Try.f55) [1, 1, 0, 1, 0, 0])) (loopD z7u.xe z7o (loopC z3w))] (by kernel_rfl) ⟨ztk, trivial⟩) (by kernel_rfl) z1a8 (fun x => by kernel_rfl)
def z1k9 : Env := ⟨[(entQ zyl zwm), (entQ zbq zaq), (entQ z9e z7t), (entQ zmw zkf)], [], []⟩
theorem zzs : EnvsOK Try.prog z1k9 := ⟨z0o (z0q z1ea) (z0o (z0q zc5) (z0o (z0q z9u) (z0o (z0q zpk) (z0x _)))), z0t _, z0u _⟩
def zei : Shp := ⟨85, 0, [(0, .d c3), (3, .pt 0 r8 []), (4, .pt 1 r13 []), (5, .pt 2 r13 []), (6, .d (.int .i64))], [.var 67 (.d c9), .var 49 (.d c14), .var 49 (.d c14)]⟩
def zax : XS := .one .normal zei.xe
theorem zm1 : zax.OK := XS.one_ok (z0d zei)
def zdq : Shp := ⟨85, 0, [(0, .d c3), (3, .pt 0 r8 []), (4, .pt 1 r13 []), (5, .pt 2 r13 []), (6, .d (.int .i64)), (50, .d .bool)], [.var 67 (.d c9), .var 49 (.d c14), .var 49 (.d c14)]⟩
def za2 : XS := .one .normal zdq.xe
theorem zl3 : za2.OK := XS.one_ok (z0d zdq)
def zkk : Shp := ⟨85, 0, [(4, .pt 0 r13 []), (5, .pt 1 r13 [])], [.var 49 (.d c14), .var 49 (.d c14)]⟩
def z9k : XS := .one (.exit 0) zkk.xe
theorem zuv : z9k.OK := XS.one_ok (z0d zkk)
def z9d : Shp := ⟨85, 0, [(0, .d c3), (3, .pt 0 r8 []), (4, .pt 1 r13 []), (5, .pt 2 r13 []), (6, .d (.int .i64))], [.var 67 (.d c9), .var 49 (.d c14), .var 49 (.d c14)]⟩
abbrev zfy := (List T1) × Int × T1 × T4 × T4
abbrev zml := (T4 × T4)
def zfx (l : List T1) (i : Int) (t3 : T1) (t4 : T4) (o : T4) : Option (zfy ⊕ zml) :=
 z0s (List.length l) (
 bif ltI i (List.length l : Nat) then
 (idxI l i).bind fun x =>
 bif !(eqU c0 x.2.2.2.1 t3.1) then
 some (.inl (l, W64 (i + 1), t3, t4, o))
 else
 (show Option (((List T1) × Int × T1 × T4 × T4)) from
 (show Option (((List T1) × Int × Bool × T1 × T4 × T4)) from
 (idxI l i).bind fun x2 =>
 bif eqI x2.2.2.1 7 then
 (idxI l i).bind fun x3 =>
 (zbg o.2.2.1 x3.1).bind fun r =>
 some (l, i, r, t3, t4, o)
 else
 some (l, i, false, t3, t4, o)).bind fun j =>
 bif j.2.2.1 then
 (idxI j.1 j.2.1).bind fun x4 =>
 (idxI j.1 j.2.1).bind fun x5 =>
 some (j.1, j.2.1, j.2.2.2.1, j.2.2.2.2.1, ((j.2.2.2.2.2.1, j.2.2.2.2.2.2.1, x4.1, j.2.2.2.2.2.2.2.2).1, (j.2.2.2.2.2.1, j.2.2.2.2.2.2.1, x4.1, j.2.2.2.2.2.2.2.2).2.1, (j.2.2.2.2.2.1, j.2.2.2.2.2.2.1, x4.1, j.2.2.2.2.2.2.2.2).2.2.1, x5.2.2.2.2.2.1, (j.2.2.2.2.2.1, j.2.2.2.2.2.2.1, x4.1, j.2.2.2.2.2.2.2.2).2.2.2.2))
 else
 some (j.1, j.2.1, j.2.2.2.1, j.2.2.2.2.1, j.2.2.2.2.2)).bind fun j2 =>
 (idxI j2.1 j2.2.1).bind fun x6 =>
 bif eqI x6.2.2.1 6 then
 (idxI j2.1 j2.2.1).bind fun x7 =>
 (idxI j2.1 j2.2.1).bind fun x8 =>
 (z9z x7.2.1 x8.1).bind fun r2 =>
 (zju j2.2.2.2.2.2.2.2.2.1 r2).bind fun r3 =>
 some (.inl (j2.1, W64 (j2.2.1 + 1), j2.2.2.1, j2.2.2.2.1, (j2.2.2.2.2.1, j2.2.2.2.2.2.1, j2.2.2.2.2.2.2.1, j2.2.2.2.2.2.2.2.1, r3, j2.2.2.2.2.2.2.2.2.2)))
 else
 some (.inl (j2.1, W64 (j2.2.1 + 1), j2.2.2.1, j2.2.2.2.1, j2.2.2.2.2))
 else
 some (.inr (t4, o)))
def z4v (s : zfy) : Option (zfy ⊕ zml) := zfx s.1 s.2.1 s.2.2.1 s.2.2.2.1 s.2.2.2.2
theorem zvv : SoundD Try.prog (.loop (subC (bodyC Try.f30) [1, 1, 0, 1, 0, 0])) (loopD z9d.xe z9k (loopC z4v)) :=
 z0v (S := z9d.xe) (X := z9k) zzs (h := (.two .no (.two (.two .no (.join (fun _ => zax) (.join (fun _ => za2) .no .no) .no)) .no))) (z0p [.xs (fun _ => zax), .xs (fun _ => za2)] (by kernel_rfl) ⟨(z2o zm1), (z2o zl3), trivial⟩) (z0d z9d) zuv z4v (fun s => by kernel_rfl)
def zzg : Shp := ⟨1, 0, [(0, .d c14)], []⟩
def z16a : XS := .one .ret zzg.xe
theorem z1dz : z16a.OK := XS.one_ok (z0d zzg)
def zrq (l : List T1) (t1 : T1) : Option ((T4)) :=
 (zn8 l t1.1).bind fun r =>
 (loopC z4v (l, 0, t1, ((0, 0), false, (0, 0), [], List.replicate 8 (0 : Int), []), (t1.1, eqI t1.2.2.1 2, t1.1, t1.2.2.2.2.2.1, List.replicate 8 (0 : Int), r))).bind fun o =>
 some o.2
def z14v : Sig := ⟨30, [.d c3, .d c9], [], 0, z16a⟩
def z12h (x : (List T1) × T1) : Option ((T4)) := zrq x.1 x.2
theorem z1if : FnOK Try.prog z14v z12h :=
 fn_ok zzs (h := (.two .no (.two .no (.two (.two .no (.over (loopD z9d.xe z9k (loopC z4v)))) .no)))) Try.func30 (z0p [.den (.loop (subC (bodyC Try.f30) [1, 1, 0, 1, 0, 0])) (loopD z9d.xe z9k (loopC z4v))] (by kernel_rfl) ⟨zvv, trivial⟩) (by kernel_rfl) z1dz (fun x => by kernel_rfl)
def z1py : Env := ⟨[], [], []⟩
theorem z18q : EnvsOK Try.prog z1py := ⟨z0x _, z0t _, z0u _⟩
def zqc : Shp := ⟨17, 0, [], []⟩
def zqk : Shp := ⟨17, 0, [(4, .d (.int .u32))], []⟩
def zcy : XS := .or (.exit 0) zqc.xe (.one .ret zqk.xe)
theorem z12p : zcy.OK := XS.or_ok (z0d zqc) (XS.one_ok (z0d zqk))
def zd3 : Shp := ⟨17, 0, [(1, .d (.int .i64)), (2, .pt 0 (.one (.arr 8 .leaf)) []), (5, .d (.int .i64))], [.var 25 (.d c1)]⟩
abbrev zkw := Int × Int × (List Int)
abbrev zt6 := (Unit) ⊕ (Int)
def zl1 (rep : Int) (i : Int) (v : List Int) : Option (zkw ⊕ zt6) :=
 bif ltI i 8 then
 bif eqI (W64 (i + 1)) rep then
 bif inI i 8 then
 (v[i.toNat]?).bind fun x =>
 some (.inr (.inr x))
 else none
 else
 some (.inl (rep, W64 (i + 1), v))
 else
 some (.inr (.inl ()))
def z8e (s : zkw) : Option (zkw ⊕ zt6) := zl1 s.1 s.2.1 s.2.2
theorem z15o : SoundD Try.prog (.loop (subC (bodyC Try.f32) [1, 0, 1, 0, 0])) (loopD zd3.xe zcy (loopC z8e)) :=
 z0v (S := zd3.xe) (X := zcy) z18q (h := .no) (z0p [] (by kernel_rfl) trivial) (z0d zd3) z12p z8e (fun s => by kernel_rfl)
def z19o : Shp := ⟨1, 0, [(0, .d (.int .u32))], []⟩
def z1et : XS := .one .ret z19o.xe
theorem z1k5 : z1et.OK := XS.one_ok (z0d z19o)
def zls (v : List Int) (rep : Int) : Option ((Int)) :=
 (loopC z8e (rep, 0, v)).bind fun o =>
 Sum.elim (fun y =>
 some 0) (fun y2 =>
 some y2) o
def zoa : Sig := ⟨32, [.d c1, .d (.int .i64)], [], 0, z1et⟩
def zmi (x : (List Int) × Int) : Option ((Int)) := zls x.1 x.2
theorem zs0 : FnOK Try.prog zoa zmi :=
 fn_ok z18q (h := (.two .no (.two (.two .no (.over (loopD zd3.xe zcy (loopC z8e)))) .no))) Try.func32 (z0p [.den (.loop (subC (bodyC Try.f32) [1, 0, 1, 0, 0])) (loopD zd3.xe zcy (loopC z8e))] (by kernel_rfl) ⟨z15o, trivial⟩) (by kernel_rfl) z1k5 (fun x => by kernel_rfl)
def z1ly : Env := ⟨[(entQ zvr ztp), (entQ z11g zzo), (entQ z14v z12h), (entQ zbq zaq), (entQ zoa zmi), (entQ z9e z7t)], [], []⟩
theorem zrr : EnvsOK Try.prog z1ly := ⟨z0o (z0q z16o) (z0o (z0q z1g9) (z0o (z0q z1if) (z0o (z0q zc5) (z0o (z0q zs0) (z0o (z0q z9u) (z0x _)))))), z0t _, z0u _⟩
def zds : Shp := ⟨108, 0, [(0, .d c3), (2, .pt 0 r15 []), (3, .pt 1 r15 []), (4, .pt 2 (.one (.arr 8 .leaf)) []), (5, .d (.int .i64)), (6, .pt 3 r8 [])], [.var 33 (.ag [.d c1, .wn 4 c14, .wn 5 c6, .d c16, .d (.arr 8 .bool)]), .var 33 (.ag [.d c1, .wn 6 c14, .d c5, .d c16, .d (.arr 8 .bool)]), .var 25 (.d c1), .var 67 (.d c9), .row 49 c14, .row 45 c6, .row 49 c14]⟩
def zan : XS := .one .normal zds.xe
theorem zlk : zan.OK := XS.one_ok (z0d zds)
def zd0 : Shp := ⟨108, 0, [(0, .d c3), (2, .pt 0 r15 []), (3, .pt 1 r15 []), (4, .pt 2 (.one (.arr 8 .leaf)) []), (5, .d (.int .i64)), (6, .pt 3 r8 []), (33, .d .bool)], [.var 33 (.ag [.d c1, .wn 4 c14, .wn 5 c6, .d c16, .d (.arr 8 .bool)]), .var 33 (.ag [.d c1, .wn 6 c14, .d c5, .d c16, .d (.arr 8 .bool)]), .var 25 (.d c1), .var 67 (.d c9), .row 49 c14, .row 45 c6, .row 49 c14]⟩
def z9f : XS := .one .normal zd0.xe
theorem zkh : z9f.OK := XS.one_ok (z0d zd0)
def z8b : Shp := ⟨108, 0, [(0, .d c3), (2, .pt 0 r15 []), (3, .pt 1 r15 []), (4, .pt 2 (.one (.arr 8 .leaf)) []), (5, .d (.int .i64)), (6, .pt 3 r8 []), (7, .pt 4 r13 []), (8, .d (.int .i64))], [.var 33 (.ag [.d c1, .wn 5 c14, .wn 6 c6, .d c16, .d (.arr 8 .bool)]), .var 33 (.ag [.d c1, .wn 7 c14, .d c5, .d c16, .d (.arr 8 .bool)]), .var 25 (.d c1), .var 67 (.d c9), .var 49 (.d c14), .row 49 c14, .row 45 c6, .row 49 c14]⟩
def z1y : XS := .one (.exit 2) z8b.xe
theorem zep : z1y.OK := XS.one_ok (z0d z8b)
def z1x : Shp := ⟨108, 0, [(0, .d c3), (2, .pt 0 r15 []), (3, .pt 1 r15 []), (4, .pt 2 (.one (.arr 8 .leaf)) []), (5, .d (.int .i64)), (6, .pt 3 r8 []), (7, .pt 4 r13 []), (8, .d (.int .i64))], [.var 33 (.ag [.d c1, .wn 5 c14, .wn 6 c6, .d c16, .d (.arr 8 .bool)]), .var 33 (.ag [.d c1, .wn 7 c14, .d c5, .d c16, .d (.arr 8 .bool)]), .var 25 (.d c1), .var 67 (.d c9), .var 49 (.d c14), .row 49 c14, .row 45 c6, .row 49 c14]⟩
abbrev z4u := (List T1) × Int × Int × (List Int) × (List Int) × (List Bool) × (List Int) × (List T2) × (List Int) × (List Bool) × (List Int) × T1 × T4 × (List T4) × (List T2) × (List T4)
abbrev z9b := ((List T1) × Int × Int × (List Int) × (List Int) × (List Bool) × (List Int) × (List T2) × (List Int) × (List Bool) × (List Int) × T1 × T4 × (List T4) × (List T2) × (List T4))
def z4r (l : List T1) (i : Int) (k : Int) (t2 : List Int) (t22 : List Int) (t23 : List Bool) (t3 : List Int) (t32 : List T2) (t33 : List Int) (t34 : List Bool) (latest : List Int) (t6 : T1) (o : T4) (t24 : List T4) (t25 : List T2) (t35 : List T4) : Option (z4u ⊕ z9b) :=
 bif ltI 0 k then
 bif inI (W64 (k - 1)) (List.length t35) then
 (t35[(W64 (k - 1)).toNat]?).bind fun x =>
 (zbg o.1 x.1).bind fun r =>
 bif r then
 bif Nat.beq (List.length t24) (List.length t24) then
 bif Nat.beq (List.length t25) (List.length t25) then
 bif Nat.beq (List.length t35) (List.length t35) then
 some (.inl (l, i, W64 (k - 1), t2, t22, t23, t3, t32, t33, t34, latest, t6, o, t24, t25, t35))
 else none
 else none
 else none
 else
 bif Nat.beq (List.length t24) (List.length t24) then
 bif Nat.beq (List.length t25) (List.length t25) then
 bif Nat.beq (List.length t35) (List.length t35) then
 some (.inr (l, i, k, t2, t22, t23, t3, t32, t33, t34, latest, t6, o, t24, t25, t35))
 else none
 else none
 else none
 else none
 else
 bif Nat.beq (List.length t24) (List.length t24) then
 bif Nat.beq (List.length t25) (List.length t25) then
 bif Nat.beq (List.length t35) (List.length t35) then
 some (.inr (l, i, k, t2, t22, t23, t3, t32, t33, t34, latest, t6, o, t24, t25, t35))
 else none
 else none
 else none
def z1d (s : z4u) : Option (z4u ⊕ z9b) := z4r s.1 s.2.1 s.2.2.1 s.2.2.2.1 s.2.2.2.2.1 s.2.2.2.2.2.1 s.2.2.2.2.2.2.1 s.2.2.2.2.2.2.2.1 s.2.2.2.2.2.2.2.2.1 s.2.2.2.2.2.2.2.2.2.1 s.2.2.2.2.2.2.2.2.2.2.1 s.2.2.2.2.2.2.2.2.2.2.2.1 s.2.2.2.2.2.2.2.2.2.2.2.2.1 s.2.2.2.2.2.2.2.2.2.2.2.2.2.1 s.2.2.2.2.2.2.2.2.2.2.2.2.2.2.1 s.2.2.2.2.2.2.2.2.2.2.2.2.2.2.2
theorem zez : SoundD Try.prog (.loop (subC (bodyC Try.f10) [1, 1, 1, 0, 1, 0, 0, 1, 0, 0, 1, 0, 1, 0, 1, 1, 0, 0, 0])) (loopD z1x.xe z1y (loopC z1d)) :=
 z0v (S := z1x.xe) (X := z1y) zrr (h := .no) (z0p [] (by kernel_rfl) trivial) (z0d z1x) zep z1d (fun s => by kernel_rfl)
def zd1 : Shp := ⟨108, 0, [(0, .d c3), (2, .pt 0 r15 []), (3, .pt 1 r15 []), (4, .pt 2 (.one (.arr 8 .leaf)) []), (5, .d (.int .i64)), (6, .pt 3 r8 [])], [.var 33 (.ag [.d c1, .wn 4 c14, .wn 5 c6, .d c16, .d (.arr 8 .bool)]), .var 33 (.ag [.d c1, .wn 6 c14, .d c5, .d c16, .d (.arr 8 .bool)]), .var 25 (.d c1), .var 67 (.d c9), .row 49 c14, .row 45 c6, .row 49 c14]⟩
def z9j : XS := .one .normal zd1.xe
theorem zkr : z9j.OK := XS.one_ok (z0d zd1)
def zcf : Shp := ⟨108, 0, [(0, .d c3), (2, .pt 0 r15 []), (3, .pt 1 r15 []), (4, .pt 2 (.one (.arr 8 .leaf)) []), (5, .d (.int .i64)), (6, .pt 3 r8 []), (85, .d .bool)], [.var 33 (.ag [.d c1, .wn 4 c14, .wn 5 c6, .d c16, .d (.arr 8 .bool)]), .var 33 (.ag [.d c1, .wn 6 c14, .d c5, .d c16, .d (.arr 8 .bool)]), .var 25 (.d c1), .var 67 (.d c9), .row 49 c14, .row 45 c6, .row 49 c14]⟩
def z8d : XS := .one .normal zcf.xe
theorem zj4 : z8d.OK := XS.one_ok (z0d zcf)
def zje : Shp := ⟨108, 0, [(2, .pt 0 r15 []), (3, .pt 1 r15 [])], [.var 33 (.ag [.d c1, .wn 2 c14, .wn 3 c6, .d c16, .d (.arr 8 .bool)]), .var 33 (.ag [.d c1, .wn 4 c14, .d c5, .d c16, .d (.arr 8 .bool)]), .row 49 c14, .row 45 c6, .row 49 c14]⟩
def z8t : XS := .one (.exit 0) zje.xe
theorem ztq : z8t.OK := XS.one_ok (z0d zje)
def z8q : Shp := ⟨108, 0, [(0, .d c3), (2, .pt 0 r15 []), (3, .pt 1 r15 []), (4, .pt 2 (.one (.arr 8 .leaf)) []), (5, .d (.int .i64))], [.var 33 (.ag [.d c1, .wn 3 c14, .wn 4 c6, .d c16, .d (.arr 8 .bool)]), .var 33 (.ag [.d c1, .wn 5 c14, .d c5, .d c16, .d (.arr 8 .bool)]), .var 25 (.d c1), .row 49 c14, .row 45 c6, .row 49 c14]⟩
abbrev zfa := (List T1) × Int × (List Int) × (List Int) × (List Bool) × (List Int) × (List T2) × (List Int) × (List Bool) × (List Int) × (List T4) × (List T2) × (List T4)
abbrev zl9 := ((List Int) × (List Int) × (List Bool) × (List Int) × (List T2) × (List Int) × (List Bool) × (List T4) × (List T2) × (List T4))
def zf4 (l : List T1) (i : Int) (t2 : List Int) (t22 : List Int) (t23 : List Bool) (t3 : List Int) (t32 : List T2) (t33 : List Int) (t34 : List Bool) (latest : List Int) (t24 : List T4) (t25 : List T2) (t35 : List T4) : Option (zfa ⊕ zl9) :=
 z0s (List.length l) (
 bif ltI i (List.length l : Nat) then
 (idxI l i).bind fun x =>
 (show Option (((List T1) × Int × (List Int) × (List Int) × (List Bool) × (List Int) × (List T2) × (List Int) × (List Bool) × (List Int) × T1 × (List T4) × (List T2) × (List T4))) from
 (show Option (((List T1) × Int × Bool × (List Int) × (List Int) × (List Bool) × (List Int) × (List T2) × (List Int) × (List Bool) × (List Int) × T1 × (List T4) × (List T2) × (List T4))) from
 bif eqI x.2.2.1 1 then
 bif Nat.beq (List.length t24) (List.length t24) then
 bif Nat.beq (List.length t25) (List.length t25) then
 bif Nat.beq (List.length t35) (List.length t35) then
 some (l, i, true, t2, t22, t23, t3, t32, t33, t34, latest, x, t24, t25, t35)
 else none
 else none
 else none
 else
 bif Nat.beq (List.length t24) (List.length t24) then
 bif Nat.beq (List.length t25) (List.length t25) then
 bif Nat.beq (List.length t35) (List.length t35) then
 some (l, i, eqI x.2.2.1 2, t2, t22, t23, t3, t32, t33, t34, latest, x, t24, t25, t35)
 else none
 else none
 else none).bind fun j =>
 bif j.2.2.1 then
 (zrq j.1 j.2.2.2.2.2.2.2.2.2.2.2.1).bind fun r =>
 z0s (List.length j.2.2.2.2.2.2.2.2.2.2.2.2.2.2) (
 bif Nat.beq (List.length j.2.2.2.2.2.2.2.2.2.2.2.2.1) (List.length j.2.2.2.2.2.2.2.2.2.2.2.2.1) then
 bif Nat.beq (List.length j.2.2.2.2.2.2.2.2.2.2.2.2.2.1) (List.length j.2.2.2.2.2.2.2.2.2.2.2.2.2.1) then
 bif Nat.beq (List.length j.2.2.2.2.2.2.2.2.2.2.2.2.2.2) (List.length j.2.2.2.2.2.2.2.2.2.2.2.2.2.2) then
 (loopC z1d (j.1, j.2.1, (List.length j.2.2.2.2.2.2.2.2.2.2.2.2.2.2 : Nat), j.2.2.2.1, j.2.2.2.2.1, j.2.2.2.2.2.1, j.2.2.2.2.2.2.1, j.2.2.2.2.2.2.2.1, j.2.2.2.2.2.2.2.2.1, j.2.2.2.2.2.2.2.2.2.1, j.2.2.2.2.2.2.2.2.2.2.1, j.2.2.2.2.2.2.2.2.2.2.2.1, r, j.2.2.2.2.2.2.2.2.2.2.2.2.1, j.2.2.2.2.2.2.2.2.2.2.2.2.2.1, j.2.2.2.2.2.2.2.2.2.2.2.2.2.2)).bind fun o =>
 bif subOk o.2.2.1 (List.length o.2.2.2.2.2.2.2.2.2.2.2.2.2.2.2 : Nat) (List.length o.2.2.2.2.2.2.2.2.2.2.2.2.2.2.2) then
 winK o.2.2.2.2.2.2.2.2.2.2.2.2.2.2.2 o.2.2.1.toNat ((List.length o.2.2.2.2.2.2.2.2.2.2.2.2.2.2.2) - o.2.2.1.toNat) fun w =>
 appG (List.length ([o.2.2.2.2.2.2.2.2.2.2.2.2.1] : List T4)) (List.length w) 112 fun _ =>
 bif subOk 0 o.2.2.1 (List.length o.2.2.2.2.2.2.2.2.2.2.2.2.2.2.2) then
 winK o.2.2.2.2.2.2.2.2.2.2.2.2.2.2.2 0 o.2.2.1.toNat fun w2 =>
 appG (List.length ([] : List T4)) (List.length w2) 112 fun _ =>
 bif Nat.beq (List.length w2) (List.length w2) then
 appG (List.length w2) (List.length (([o.2.2.2.2.2.2.2.2.2.2.2.2.1] : List T4) ++ w)) 112 fun _ =>
 bif Nat.beq (List.length o.2.2.2.2.2.2.2.2.2.2.2.2.2.1) (List.length o.2.2.2.2.2.2.2.2.2.2.2.2.2.1) then
 bif Nat.beq (List.length o.2.2.2.2.2.2.2.2.2.2.2.2.2.2.1) (List.length o.2.2.2.2.2.2.2.2.2.2.2.2.2.2.1) then
 bif Nat.beq (List.length (w2 ++ (([o.2.2.2.2.2.2.2.2.2.2.2.2.1] : List T4) ++ w))) (List.length (w2 ++ (([o.2.2.2.2.2.2.2.2.2.2.2.2.1] : List T4) ++ w))) then
 some (o.1, o.2.1, o.2.2.2.1, o.2.2.2.2.1, o.2.2.2.2.2.1, o.2.2.2.2.2.2.1, o.2.2.2.2.2.2.2.1, o.2.2.2.2.2.2.2.2.1, o.2.2.2.2.2.2.2.2.2.1, o.2.2.2.2.2.2.2.2.2.2.1, o.2.2.2.2.2.2.2.2.2.2.2.1, o.2.2.2.2.2.2.2.2.2.2.2.2.2.1, o.2.2.2.2.2.2.2.2.2.2.2.2.2.2.1, w2 ++ (([o.2.2.2.2.2.2.2.2.2.2.2.2.1] : List T4) ++ w))
 else none
 else none
 else none
 else none
 else none
 else none
 else none
 else none
 else none)
 else
 bif Nat.beq (List.length j.2.2.2.2.2.2.2.2.2.2.2.2.1) (List.length j.2.2.2.2.2.2.2.2.2.2.2.2.1) then
 bif Nat.beq (List.length j.2.2.2.2.2.2.2.2.2.2.2.2.2.1) (List.length j.2.2.2.2.2.2.2.2.2.2.2.2.2.1) then
 bif Nat.beq (List.length j.2.2.2.2.2.2.2.2.2.2.2.2.2.2) (List.length j.2.2.2.2.2.2.2.2.2.2.2.2.2.2) then
 some (j.1, j.2.1, j.2.2.2.1, j.2.2.2.2.1, j.2.2.2.2.2.1, j.2.2.2.2.2.2.1, j.2.2.2.2.2.2.2.1, j.2.2.2.2.2.2.2.2.1, j.2.2.2.2.2.2.2.2.2.1, j.2.2.2.2.2.2.2.2.2.2.1, j.2.2.2.2.2.2.2.2.2.2.2.1, j.2.2.2.2.2.2.2.2.2.2.2.2.1, j.2.2.2.2.2.2.2.2.2.2.2.2.2.1, j.2.2.2.2.2.2.2.2.2.2.2.2.2.2)
 else none
 else none
 else none).bind fun j2 =>
 (show Option (((List T1) × Int × (List Int) × (List Int) × (List Bool) × (List Int) × (List T2) × (List Int) × (List Bool) × (List Int) × T1 × (List T4) × (List T2) × (List T4))) from
 (show Option (((List T1) × Int × Bool × (List Int) × (List Int) × (List Bool) × (List Int) × (List T2) × (List Int) × (List Bool) × (List Int) × T1 × (List T4) × (List T2) × (List T4))) from
 bif eqI j2.2.2.2.2.2.2.2.2.2.2.1.2.2.1 8 then
 (zls j2.2.2.2.2.2.2.2.2.2.1 j2.2.2.2.2.2.2.2.2.2.2.1.1.1).bind fun r2 =>
 bif Nat.beq (List.length j2.2.2.2.2.2.2.2.2.2.2.2.1) (List.length j2.2.2.2.2.2.2.2.2.2.2.2.1) then
 bif Nat.beq (List.length j2.2.2.2.2.2.2.2.2.2.2.2.2.1) (List.length j2.2.2.2.2.2.2.2.2.2.2.2.2.1) then
 bif Nat.beq (List.length j2.2.2.2.2.2.2.2.2.2.2.2.2.2) (List.length j2.2.2.2.2.2.2.2.2.2.2.2.2.2) then
 some (j2.1, j2.2.1, ltI r2 j2.2.2.2.2.2.2.2.2.2.2.1.1.2, j2.2.2.1, j2.2.2.2.1, j2.2.2.2.2.1, j2.2.2.2.2.2.1, j2.2.2.2.2.2.2.1, j2.2.2.2.2.2.2.2.1, j2.2.2.2.2.2.2.2.2.1, j2.2.2.2.2.2.2.2.2.2.1, j2.2.2.2.2.2.2.2.2.2.2.1, j2.2.2.2.2.2.2.2.2.2.2.2.1, j2.2.2.2.2.2.2.2.2.2.2.2.2.1, j2.2.2.2.2.2.2.2.2.2.2.2.2.2)
 else none
 else none
 else none
 else
 bif Nat.beq (List.length j2.2.2.2.2.2.2.2.2.2.2.2.1) (List.length j2.2.2.2.2.2.2.2.2.2.2.2.1) then
 bif Nat.beq (List.length j2.2.2.2.2.2.2.2.2.2.2.2.2.1) (List.length j2.2.2.2.2.2.2.2.2.2.2.2.2.1) then
 bif Nat.beq (List.length j2.2.2.2.2.2.2.2.2.2.2.2.2.2) (List.length j2.2.2.2.2.2.2.2.2.2.2.2.2.2) then
 some (j2.1, j2.2.1, false, j2.2.2.1, j2.2.2.2.1, j2.2.2.2.2.1, j2.2.2.2.2.2.1, j2.2.2.2.2.2.2.1, j2.2.2.2.2.2.2.2.1, j2.2.2.2.2.2.2.2.2.1, j2.2.2.2.2.2.2.2.2.2.1, j2.2.2.2.2.2.2.2.2.2.2.1, j2.2.2.2.2.2.2.2.2.2.2.2.1, j2.2.2.2.2.2.2.2.2.2.2.2.2.1, j2.2.2.2.2.2.2.2.2.2.2.2.2.2)
 else none
 else none
 else none).bind fun j3 =>
 bif j3.2.2.1 then
 (z9z j3.2.2.2.2.2.2.2.2.2.2.1 j3.2.2.2.2.2.2.2.2.2.2.2.1.1).bind fun r3 =>
 bif inI (W64 (j3.2.2.2.2.2.2.2.2.2.2.2.1.1.1 - 1)) 8 then
 (j3.2.2.2.2.2.2.2.2.1[(W64 (j3.2.2.2.2.2.2.2.2.2.2.2.1.1.1 - 1)).toNat]?).bind fun _x =>
 bif Nat.beq (List.length j3.2.2.2.2.2.2.2.2.2.2.2.2.1) (List.length j3.2.2.2.2.2.2.2.2.2.2.2.2.1) then
 bif Nat.beq (List.length j3.2.2.2.2.2.2.2.2.2.2.2.2.2.1) (List.length j3.2.2.2.2.2.2.2.2.2.2.2.2.2.1) then
 bif Nat.beq (List.length j3.2.2.2.2.2.2.2.2.2.2.2.2.2.2) (List.length j3.2.2.2.2.2.2.2.2.2.2.2.2.2.2) then
 some ((j3.1, j3.2.1, j3.2.2.2.1, j3.2.2.2.2.1, j3.2.2.2.2.2.1, j3.2.2.2.2.2.2.1, j3.2.2.2.2.2.2.2.1, j3.2.2.2.2.2.2.2.2.1.set ((W64 (j3.2.2.2.2.2.2.2.2.2.2.2.1.1.1 - 1)).toNat) j3.2.2.2.2.2.2.2.2.2.2.2.1.2.2.2.2.2.2.2.2.2.2, j3.2.2.2.2.2.2.2.2.2.1, r3, j3.2.2.2.2.2.2.2.2.2.2.2.1, j3.2.2.2.2.2.2.2.2.2.2.2.2.1, j3.2.2.2.2.2.2.2.2.2.2.2.2.2.1, j3.2.2.2.2.2.2.2.2.2.2.2.2.2.2))
 else none
 else none
 else none
 else none
 else
 bif Nat.beq (List.length j3.2.2.2.2.2.2.2.2.2.2.2.2.1) (List.length j3.2.2.2.2.2.2.2.2.2.2.2.2.1) then
 bif Nat.beq (List.length j3.2.2.2.2.2.2.2.2.2.2.2.2.2.1) (List.length j3.2.2.2.2.2.2.2.2.2.2.2.2.2.1) then
 bif Nat.beq (List.length j3.2.2.2.2.2.2.2.2.2.2.2.2.2.2) (List.length j3.2.2.2.2.2.2.2.2.2.2.2.2.2.2) then
 some (j3.1, j3.2.1, j3.2.2.2.1, j3.2.2.2.2.1, j3.2.2.2.2.2.1, j3.2.2.2.2.2.2.1, j3.2.2.2.2.2.2.2.1, j3.2.2.2.2.2.2.2.2.1, j3.2.2.2.2.2.2.2.2.2.1, j3.2.2.2.2.2.2.2.2.2.2.1, j3.2.2.2.2.2.2.2.2.2.2.2.1, j3.2.2.2.2.2.2.2.2.2.2.2.2.1, j3.2.2.2.2.2.2.2.2.2.2.2.2.2.1, j3.2.2.2.2.2.2.2.2.2.2.2.2.2.2)
 else none
 else none
 else none).bind fun j4 =>
 bif eqI j4.2.2.2.2.2.2.2.2.2.2.1.2.2.1 9 then
 bif inI (W64 (j4.2.2.2.2.2.2.2.2.2.2.1.1.1 - 1)) 8 then
 (j4.2.2.2.2.2.2.2.2.1[(W64 (j4.2.2.2.2.2.2.2.2.2.2.1.1.1 - 1)).toNat]?).bind fun _x2 =>
 bif Nat.beq (List.length j4.2.2.2.2.2.2.2.2.2.2.2.1) (List.length j4.2.2.2.2.2.2.2.2.2.2.2.1) then
 bif Nat.beq (List.length j4.2.2.2.2.2.2.2.2.2.2.2.2.1) (List.length j4.2.2.2.2.2.2.2.2.2.2.2.2.1) then
 bif Nat.beq (List.length j4.2.2.2.2.2.2.2.2.2.2.2.2.2) (List.length j4.2.2.2.2.2.2.2.2.2.2.2.2.2) then
 some (.inl ((j4.1, W64 (j4.2.1 + 1), j4.2.2.1, j4.2.2.2.1, j4.2.2.2.2.1, j4.2.2.2.2.2.1, j4.2.2.2.2.2.2.1, j4.2.2.2.2.2.2.2.1, j4.2.2.2.2.2.2.2.2.1.set ((W64 (j4.2.2.2.2.2.2.2.2.2.2.1.1.1 - 1)).toNat) true, j4.2.2.2.2.2.2.2.2.2.1, j4.2.2.2.2.2.2.2.2.2.2.2.1, j4.2.2.2.2.2.2.2.2.2.2.2.2.1, j4.2.2.2.2.2.2.2.2.2.2.2.2.2)))
 else none
 else none
 else none
 else none
 else
 bif Nat.beq (List.length j4.2.2.2.2.2.2.2.2.2.2.2.1) (List.length j4.2.2.2.2.2.2.2.2.2.2.2.1) then
 bif Nat.beq (List.length j4.2.2.2.2.2.2.2.2.2.2.2.2.1) (List.length j4.2.2.2.2.2.2.2.2.2.2.2.2.1) then
 bif Nat.beq (List.length j4.2.2.2.2.2.2.2.2.2.2.2.2.2) (List.length j4.2.2.2.2.2.2.2.2.2.2.2.2.2) then
 some (.inl (j4.1, W64 (j4.2.1 + 1), j4.2.2.1, j4.2.2.2.1, j4.2.2.2.2.1, j4.2.2.2.2.2.1, j4.2.2.2.2.2.2.1, j4.2.2.2.2.2.2.2.1, j4.2.2.2.2.2.2.2.2.1, j4.2.2.2.2.2.2.2.2.2.1, j4.2.2.2.2.2.2.2.2.2.2.2.1, j4.2.2.2.2.2.2.2.2.2.2.2.2.1, j4.2.2.2.2.2.2.2.2.2.2.2.2.2))
 else none
 else none
 else none
 else
 bif Nat.beq (List.length t24) (List.length t24) then
 bif Nat.beq (List.length t25) (List.length t25) then
 bif Nat.beq (List.length t35) (List.length t35) then
 some (.inr (t2, t22, t23, t3, t32, t33, t34, t24, t25, t35))
 else none
 else none
 else none)
def z4h (s : zfa) : Option (zfa ⊕ zl9) := zf4 s.1 s.2.1 s.2.2.1 s.2.2.2.1 s.2.2.2.2.1 s.2.2.2.2.2.1 s.2.2.2.2.2.2.1 s.2.2.2.2.2.2.2.1 s.2.2.2.2.2.2.2.2.1 s.2.2.2.2.2.2.2.2.2.1 s.2.2.2.2.2.2.2.2.2.2.1 s.2.2.2.2.2.2.2.2.2.2.2.1 s.2.2.2.2.2.2.2.2.2.2.2.2
theorem zv3 : SoundD Try.prog (.loop (subC (bodyC Try.f10) [1, 1, 1, 0, 1, 0, 0])) (loopD z8q.xe z8t (loopC z4h)) :=
 z0v (S := z8q.xe) (X := z8t) zrr (h := (.two .no (.two (.two .no (.join (fun _ => zan) (.join (fun _ => z9f) .no (.two (.two .no (.two .no (.two (.over (loopD z1x.xe z1y (loopC z1d))) (.two .no (.reg [5] []))))) .no)) (.join (fun _ => z9j) (.join (fun _ => z8d) .no .no) .no))) .no))) (z0p [.xs (fun _ => zan), .xs (fun _ => z9f), .den (.loop (subC (bodyC Try.f10) [1, 1, 1, 0, 1, 0, 0, 1, 0, 0, 1, 0, 1, 0, 1, 1, 0, 0, 0])) (loopD z1x.xe z1y (loopC z1d)), .xs (fun _ => z9j), .xs (fun _ => z8d)] (by kernel_rfl) ⟨(z2o zlk), (z2o zkh), zez, (z2o zkr), (z2o zj4), trivial⟩) (z0d z8q) ztq z4h (fun s => by kernel_rfl)
def z11o : Shp := ⟨1, 0, [(0, .d c17)], []⟩
def z19w : XS := .one .ret z11o.xe
theorem z1gf : z19w.OK := XS.one_ok (z0d z11o)
def zfd (l : List T1) : Option ((T5)) :=
 (zpe l).bind fun r =>
 (zes l).bind fun r2 =>
 bif Nat.beq 0 (List.length ([] : List T4)) then
 bif Nat.beq 0 (List.length ([] : List T2)) then
 bif Nat.beq 0 (List.length ([] : List T4)) then
 (loopC z4h (l, 0, List.replicate 8 (0 : Int), List.replicate 8 (0 : Int), List.replicate 8 false, r, r2, List.replicate 8 (0 : Int), List.replicate 8 false, List.replicate 8 (0 : Int), ([] : List T4), ([] : List T2), ([] : List T4))).bind fun o =>
 winK o.2.2.2.2.2.2.2.2.2 0 (List.length o.2.2.2.2.2.2.2.2.2) fun w =>
 some (o.2.2.2.1, w, o.2.2.2.2.1, o.2.2.2.2.2.1, o.2.2.2.2.2.2.1)
 else none
 else none
 else none
def zvh : Sig := ⟨10, [.d c3], [], 0, z19w⟩
def ztt (x : (List T1)) : Option ((T5)) := zfd x
theorem z15h : FnOK Try.prog zvh ztt :=
 fn_ok zrr (h := (.two .no (.two .no (.two .no (.two (.two .no (.over (loopD z8q.xe z8t (loopC z4h)))) .no))))) Try.func10 (z0p [.den (.loop (subC (bodyC Try.f10) [1, 1, 1, 0, 1, 0, 0])) (loopD z8q.xe z8t (loopC z4h))] (by kernel_rfl) ⟨zv3, trivial⟩) (by kernel_rfl) z1gf (fun x => by kernel_rfl)
def z1fp : Env := ⟨[], [], []⟩
theorem z1bf : EnvsOK Try.prog z1fp := ⟨z0x _, z0t _, z0u _⟩
def zvc : Shp := ⟨1, 0, [(0, .wn 0 c6)], [.row 45 c6]⟩
def zzv : XS := .one .ret zvc.xe
theorem z1a9 : zzv.OK := XS.one_ok (z0d zvc)
def zni (t0 : List T2) : Option (((List T2))) :=
 nilK (List.length t0) fun q =>
 bif q then
 bif Nat.beq 0 (List.length ([] : List T2)) then
 some ([] : List T2)
 else none
 else
 appG (List.length ([] : List T2)) (List.length t0) 96 fun _ =>
 bif Nat.beq (List.length t0) (List.length t0) then
 some t0
 else none
def zzn : Sig := ⟨61, [.d c5], [], 0, zzv⟩
def zwb (x : (List T2)) : Option (((List T2))) := zni x
theorem z1e6 : FnOK Try.prog zzn zwb :=
 fn_ok z1bf (h := (.two .no (.two .no (.two (.reg [2] []) .no)))) Try.func61 (z0p [] (by kernel_rfl) trivial) (by kernel_rfl) z1a9 (fun x => by kernel_rfl)
def z1gu : Env := ⟨[], [], []⟩
theorem z1cz : EnvsOK Try.prog z1gu := ⟨z0x _, z0t _, z0u _⟩
def zuw : Shp := ⟨1, 0, [(0, .wn 0 c11)], [.row 85 c11]⟩
def zze : XS := .one .ret zuw.xe
theorem z1ak : zze.OK := XS.one_ok (z0d zuw)
def zj0 (t0 : List T3) : Option (((List T3))) :=
 nilK (List.length t0) fun q =>
 bif q then
 bif Nat.beq 0 (List.length ([] : List T3)) then
 some ([] : List T3)
 else none
 else
 appG (List.length ([] : List T3)) (List.length t0) 64 fun _ =>
 bif Nat.beq (List.length t0) (List.length t0) then
 some t0
 else none
def zpw : Sig := ⟨62, [.d c10], [], 0, zze⟩
def zo3 (x : (List T3)) : Option (((List T3))) := zj0 x
theorem zw7 : FnOK Try.prog zpw zo3 :=
 fn_ok z1cz (h := (.two .no (.two .no (.two (.reg [2] []) .no)))) Try.func62 (z0p [] (by kernel_rfl) trivial) (by kernel_rfl) z1ak (fun x => by kernel_rfl)
def z1ng : Env := ⟨[], [], []⟩
theorem z16i : EnvsOK Try.prog z1ng := ⟨z0x _, z0t _, z0u _⟩
def zoo : Shp := ⟨22, 0, [], []⟩
def zot : Shp := ⟨22, 0, [(4, .d .bool)], []⟩
def zci : XS := .or (.exit 0) zoo.xe (.one .ret zot.xe)
theorem z10k : zci.OK := XS.or_ok (z0d zoo) (XS.one_ok (z0d zot))
def zck : Shp := ⟨22, 0, [(3, .pt 0 (.one (.arr 8 .leaf)) []), (7, .d c1), (8, .d (.int .i64))], [.var 25 (.d c1)]⟩
abbrev zjp := (List Int) × Int × (List Int)
abbrev zrv := (Unit) ⊕ (Bool)
def zjv (t7 : List Int) (t8 : Int) (base : List Int) : Option (zjp ⊕ zrv) :=
 bif ltI t8 8 then
 (idxI t7 t8).bind fun x =>
 bif ltI 0 x then
 bif inI t8 8 then
 (base[t8.toNat]?).bind fun x2 =>
 bif leI x x2 then
 some (.inr (.inr true))
 else
 some (.inl (t7, W64 (t8 + 1), base))
 else none
 else
 some (.inl (t7, W64 (t8 + 1), base))
 else
 some (.inr (.inl ()))
def z5m (s : zjp) : Option (zjp ⊕ zrv) := zjv s.1 s.2.1 s.2.2
theorem z13d : SoundD Try.prog (.loop (subC (bodyC Try.f65) [1, 0, 1, 0, 0])) (loopD zck.xe zci (loopC z5m)) :=
 z0v (S := zck.xe) (X := zci) z16i (h := .no) (z0p [] (by kernel_rfl) trivial) (z0d zck) z10k z5m (fun s => by kernel_rfl)
def z14d : Shp := ⟨1, 0, [(0, .d .bool)], []⟩
def z1ch : XS := .one .ret z14d.xe
theorem z1ic : z1ch.OK := XS.one_ok (z0d z14d)
def zrx (t0 : List Int) (base : List Int) : Option ((Bool)) :=
 (loopC z5m (t0, 0, base)).bind fun o =>
 Sum.elim (fun y =>
 some false) (fun y2 =>
 some y2) o
def zzx : Sig := ⟨65, [.d c1, .d c1], [], 0, z1ch⟩
def zvo (x : (List Int) × (List Int)) : Option ((Bool)) := zrx x.1 x.2
theorem z19b : FnOK Try.prog zzx zvo :=
 fn_ok z16i (h := (.two .no (.two (.two .no (.over (loopD zck.xe zci (loopC z5m)))) .no))) Try.func65 (z0p [.den (.loop (subC (bodyC Try.f65) [1, 0, 1, 0, 0])) (loopD zck.xe zci (loopC z5m))] (by kernel_rfl) ⟨z13d, trivial⟩) (by kernel_rfl) z1ic (fun x => by kernel_rfl)
def z1j2 : Env := ⟨[(entQ zzx zvo)], [], []⟩
theorem z1e3 : EnvsOK Try.prog z1j2 := ⟨z0o (z0q z19b) (z0x _), z0t _, z0u _⟩
def zwl : Shp := ⟨1, 0, [(0, .d .bool)], []⟩
def z11d : XS := .one .ret zwl.xe
theorem z1bm : z11d.OK := XS.one_ok (z0d zwl)
def zex (x : T2) (t1 : List Int) : Option ((Bool)) :=
 (zrx x.2.2.2.2 t1).bind fun r =>
 some r
def zre : Sig := ⟨64, [.d c6, .rf (.d c1)], [], 0, z11d⟩
def zpr (x : T2 × (List Int)) : Option ((Bool)) := zex x.1 x.2
theorem zy7 : FnOK Try.prog zre zpr :=
 fn_ok z1e3 (h := .no) Try.func64 (z0p [] (by kernel_rfl) trivial) (by kernel_rfl) z1bm (fun x => by kernel_rfl)
def z1bs : Env := ⟨[(entQ zre zpr)], [], []⟩
theorem zrf : EnvsOK Try.prog z1bs := ⟨z0o (z0q zy7) (z0x _), z0t _, z0u _⟩
def zin : Shp := ⟨19, 0, [], []⟩
def zii : Shp := ⟨19, 0, [(4, .d (.int .i64))], []⟩
def z7p : XS := .or (.exit 0) zin.xe (.one .ret zii.xe)
theorem zst : z7p.OK := XS.or_ok (z0d zin) (XS.one_ok (z0d zii))
def z7q : Shp := ⟨19, 0, [(0, .d c5), (1, .fn 64 [.rf (.d c1)]), (7, .d (.int .i64)), (8, .d (.int .i64))], []⟩
abbrev zeu := (List T2) × (List Int) × Int × Int
abbrev zkc := (Unit) ⊕ (Int)
def zew (t0 : List T2) (f : List Int) (t7 : Int) (t8 : Int) : Option (zeu ⊕ zkc) :=
 bif ltI t8 t7 then
 (idxI t0 t8).bind fun x =>
 (zex x f).bind fun r =>
 bif r then
 some (.inr (.inr t8))
 else
 some (.inl (t0, f, t7, W64 (t8 + 1)))
 else
 some (.inr (.inl ()))
def z3a (s : zeu) : Option (zeu ⊕ zkc) := zew s.1 s.2.1 s.2.2.1 s.2.2.2
theorem zts : SoundD Try.prog (.loop (subC (bodyC Try.f85) [1, 0, 1, 0, 0])) (loopD z7q.xe z7p (loopC z3a)) :=
 z0v (S := z7q.xe) (X := z7p) zrf (h := .no) (z0p [] (by kernel_rfl) trivial) (z0d z7q) zst z3a (fun s => by kernel_rfl)
def zrk : Shp := ⟨1, 0, [(0, .d (.int .i64))], []⟩
def zva : XS := .one .ret zrk.xe
theorem z15z : zva.OK := XS.one_ok (z0d zrk)
def zk5 (t0 : List T2) (f : List Int) : Option ((Int)) :=
 z0s (List.length t0) (
 (loopC z3a (t0, f, (List.length t0 : Nat), 0)).bind fun o =>
 Sum.elim (fun y =>
 some (-1)) (fun y2 =>
 some y2) o)
def zus : Sig := ⟨85, [.d c5, .fn 64 [.rf (.d c1)]], [], 0, zva⟩
def zsy (x : (List T2) × (List Int)) : Option ((Int)) := zk5 x.1 x.2
theorem z1af : FnOK Try.prog zus zsy :=
 fn_ok zrf (h := (.two .no (.two (.two .no (.over (loopD z7q.xe z7p (loopC z3a)))) .no))) Try.func85 (z0p [.den (.loop (subC (bodyC Try.f85) [1, 0, 1, 0, 0])) (loopD z7q.xe z7p (loopC z3a))] (by kernel_rfl) ⟨zts, trivial⟩) (by kernel_rfl) z15z (fun x => by kernel_rfl)
def z14z : Env := ⟨[(entQ zus zsy), (entQ zre zpr)], [], []⟩
theorem znq : EnvsOK Try.prog z14z := ⟨z0o (z0q z1af) (z0o (z0q zy7) (z0x _)), z0t _, z0u _⟩
def zeg : Shp := ⟨42, 2, [(0, .wn 0 c6), (5, .d (.int .i64))], [.row 45 c6, .var 25 (.d c1)]⟩
def z4l : XS := .one (.exit 0) zeg.xe
theorem zms : z4l.OK := XS.one_ok (z0d zeg)
def z4k : Shp := ⟨42, 2, [(0, .wn 0 c6), (1, .fn 64 [.pt 1 (.one (.arr 8 .leaf)) []]), (5, .d (.int .i64)), (6, .d (.int .i64))], [.row 45 c6, .var 25 (.d c1)]⟩
abbrev zb9 := Int × Int × (List T2) × (List Int)
abbrev zfc := (Int × (List T2) × (List Int))
def zbc (i : Int) (j : Int) (t0 : List T2) (del : List Int) : Option (zb9 ⊕ zfc) :=
 z0s (List.length t0) (
 bif ltI j (List.length t0 : Nat) then
 bif inI j (List.length t0) then
 (t0[j.toNat]?).bind fun x =>
 (zex x del).bind fun r =>
 bif !r then
 bif inI i (List.length t0) then
 (t0[i.toNat]?).bind fun _x =>
 bif Nat.beq (List.length t0) (List.length (t0.set i.toNat x)) then
 some (.inl (W64 (i + 1), W64 (j + 1), t0.set i.toNat x, del))
 else none
 else none
 else
 bif Nat.beq (List.length t0) (List.length t0) then
 some (.inl (i, W64 (j + 1), t0, del))
 else none
 else none
 else
 bif Nat.beq (List.length t0) (List.length t0) then
 some (.inr (i, t0, del))
 else none)
def z1t (s : zb9) : Option (zb9 ⊕ zfc) := zbc s.1 s.2.1 s.2.2.1 s.2.2.2
theorem zn1 : SoundD Try.prog (.loop (subC (bodyC Try.f63) [1, 1, 1, 0, 1, 0, 0])) (loopD z4k.xe z4l (loopC z1t)) :=
 z0v (S := z4k.xe) (X := z4l) znq (h := .no) (z0p [] (by kernel_rfl) trivial) (z0d z4k) zms z1t (fun s => by kernel_rfl)
def zny : Shp := ⟨1, 2, [(0, .ws 0 c6)], [.row 45 c6, .var 25 (.d c1)]⟩
def zqa : XS := .one .ret zny.xe
theorem zzw : zqa.OK := XS.one_ok (z0d zny)
def zg5 (t0 : List T2) (del : List Int) : Option (((List Bool) × (List T2) × (List Int))) :=
 winK t0 0 (List.length t0) fun w =>
 (zk5 w del).bind fun r =>
 bif eqI r (-1) then
 some ((List.replicate (List.length t0) true), t0, del)
 else
 bif Nat.beq (List.length t0) (List.length t0) then
 (loopC z1t (r, W64 (r + 1), t0, del)).bind fun o =>
 bif subOk o.1 (List.length o.2.1 : Nat) (List.length o.2.1) then
 bif Nat.ble (addN o.1.toNat ((List.length o.2.1) - o.1.toNat)) (List.length o.2.1) then
 bif subOk 0 o.1 (List.length o.2.1) then
 some (((List.replicate o.1.toNat true), cpyL o.2.1 o.1.toNat ((List.length o.2.1) - o.1.toNat) (List.replicate ((List.length o.2.1) - o.1.toNat) (((0 : Int), (0 : Int)), ((0 : Int), (0 : Int)), ([] : List Int), ((0 : Int), (0 : Int)), List.replicate 8 (0 : Int))), o.2.2))
 else none
 else none
 else none
 else none
def zqo : Sig := ⟨63, [.wn 0 c6, .fn 64 [.pt 1 (.one (.arr 8 .leaf)) []]], [.row 45 c6, .var 25 (.d c1)], 2, zqa⟩
def zou (x : (List T2) × (List Int)) : Option (((List Bool) × (List T2) × (List Int))) := zg5 x.1 x.2
theorem z12r : FnOK Try.prog zqo zou :=
 fn_ok znq (h := (.two .no (.two .no (.two .no (.two (.two .no (.over (loopD z4k.xe z4l (loopC z1t)))) .no))))) Try.func63 (z0p [.den (.loop (subC (bodyC Try.f63) [1, 1, 1, 0, 1, 0, 0])) (loopD z4k.xe z4l (loopC z1t))] (by kernel_rfl) ⟨zn1, trivial⟩) (by kernel_rfl) zzw (fun x => by kernel_rfl)
def z1e4 : Env := ⟨[(entQ zzx zvo)], [], []⟩
theorem z1ab : EnvsOK Try.prog z1e4 := ⟨z0o (z0q z19b) (z0x _), z0t _, z0u _⟩
def zt9 : Shp := ⟨1, 0, [(0, .d .bool)], []⟩
def zwa : XS := .one .ret zt9.xe
theorem z17u : zwa.OK := XS.one_ok (z0d zt9)
def zcn (v : T3) (t1 : List Int) : Option ((Bool)) :=
 (zrx v.2.2 t1).bind fun r =>
 some r
def zo4 : Sig := ⟨67, [.d c11, .rf (.d c1)], [], 0, zwa⟩
def zlp (x : T3 × (List Int)) : Option ((Bool)) := zcn x.1 x.2
theorem zv8 : FnOK Try.prog zo4 zlp :=
 fn_ok z1ab (h := .no) Try.func67 (z0p [] (by kernel_rfl) trivial) (by kernel_rfl) z17u (fun x => by kernel_rfl)
def z17s : Env := ⟨[(entQ zo4 zlp)], [], []⟩
theorem zoj : EnvsOK Try.prog z17s := ⟨z0o (z0q zv8) (z0x _), z0t _, z0u _⟩
def zhb : Shp := ⟨19, 0, [], []⟩
def zgt : Shp := ⟨19, 0, [(4, .d (.int .i64))], []⟩
def z6u : XS := .or (.exit 0) zhb.xe (.one .ret zgt.xe)
theorem zqy : z6u.OK := XS.or_ok (z0d zhb) (XS.one_ok (z0d zgt))
def z6m : Shp := ⟨19, 0, [(0, .d c10), (1, .fn 67 [.rf (.d c1)]), (7, .d (.int .i64)), (8, .d (.int .i64))], []⟩
abbrev zdb := (List T3) × (List Int) × Int × Int
abbrev zif := (Unit) ⊕ (Int)
def zdc (t0 : List T3) (f : List Int) (t7 : Int) (t8 : Int) : Option (zdb ⊕ zif) :=
 bif ltI t8 t7 then
 (idxI t0 t8).bind fun x =>
 (zcn x f).bind fun r =>
 bif r then
 some (.inr (.inr t8))
 else
 some (.inl (t0, f, t7, W64 (t8 + 1)))
 else
 some (.inr (.inl ()))
def z2v (s : zdb) : Option (zdb ⊕ zif) := zdc s.1 s.2.1 s.2.2.1 s.2.2.2
theorem zrd : SoundD Try.prog (.loop (subC (bodyC Try.f86) [1, 0, 1, 0, 0])) (loopD z6m.xe z6u (loopC z2v)) :=
 z0v (S := z6m.xe) (X := z6u) zoj (h := .no) (z0p [] (by kernel_rfl) trivial) (z0d z6m) zqy z2v (fun s => by kernel_rfl)
def zp7 : Shp := ⟨1, 0, [(0, .d (.int .i64))], []⟩
def zro : XS := .one .ret zp7.xe
theorem z10l : zro.OK := XS.one_ok (z0d zp7)
def zha (t0 : List T3) (f : List Int) : Option ((Int)) :=
 z0s (List.length t0) (
 (loopC z2v (t0, f, (List.length t0 : Nat), 0)).bind fun o =>
 Sum.elim (fun y =>
 some (-1)) (fun y2 =>
 some y2) o)
def zsb : Sig := ⟨86, [.d c10, .fn 67 [.rf (.d c1)]], [], 0, zro⟩
def zq7 (x : (List T3) × (List Int)) : Option ((Int)) := zha x.1 x.2
theorem z14g : FnOK Try.prog zsb zq7 :=
 fn_ok zoj (h := (.two .no (.two (.two .no (.over (loopD z6m.xe z6u (loopC z2v)))) .no))) Try.func86 (z0p [.den (.loop (subC (bodyC Try.f86) [1, 0, 1, 0, 0])) (loopD z6m.xe z6u (loopC z2v))] (by kernel_rfl) ⟨zrd, trivial⟩) (by kernel_rfl) z10l (fun x => by kernel_rfl)
def z15t : Env := ⟨[(entQ zsb zq7), (entQ zo4 zlp)], [], []⟩
theorem zno : EnvsOK Try.prog z15t := ⟨z0o (z0q z14g) (z0o (z0q zv8) (z0x _)), z0t _, z0u _⟩
def zem : Shp := ⟨42, 2, [(0, .wn 0 c11), (5, .d (.int .i64))], [.row 85 c11, .var 25 (.d c1)]⟩
def z4n : XS := .one (.exit 0) zem.xe
theorem zmb : z4n.OK := XS.one_ok (z0d zem)
def z4j : Shp := ⟨42, 2, [(0, .wn 0 c11), (1, .fn 67 [.pt 1 (.one (.arr 8 .leaf)) []]), (5, .d (.int .i64)), (6, .d (.int .i64))], [.row 85 c11, .var 25 (.d c1)]⟩
abbrev zb0 := Int × Int × (List T3) × (List Int)
abbrev zfg := (Int × (List T3) × (List Int))
def zb4 (i : Int) (j : Int) (t0 : List T3) (del : List Int) : Option (zb0 ⊕ zfg) :=
 z0s (List.length t0) (
 bif ltI j (List.length t0 : Nat) then
 bif inI j (List.length t0) then
 (t0[j.toNat]?).bind fun x =>
 (zcn x del).bind fun r =>
 bif !r then
 bif inI i (List.length t0) then
 (t0[i.toNat]?).bind fun _x =>
 bif Nat.beq (List.length t0) (List.length (t0.set i.toNat x)) then
 some (.inl (W64 (i + 1), W64 (j + 1), t0.set i.toNat x, del))
 else none
 else none
 else
 bif Nat.beq (List.length t0) (List.length t0) then
 some (.inl (i, W64 (j + 1), t0, del))
 else none
 else none
 else
 bif Nat.beq (List.length t0) (List.length t0) then
 some (.inr (i, t0, del))
 else none)
def z1v (s : zb0) : Option (zb0 ⊕ zfg) := zb4 s.1 s.2.1 s.2.2.1 s.2.2.2
theorem zn9 : SoundD Try.prog (.loop (subC (bodyC Try.f66) [1, 1, 1, 0, 1, 0, 0])) (loopD z4j.xe z4n (loopC z1v)) :=
 z0v (S := z4j.xe) (X := z4n) zno (h := .no) (z0p [] (by kernel_rfl) trivial) (z0d z4j) zmb z1v (fun s => by kernel_rfl)
def znx : Shp := ⟨1, 2, [(0, .ws 0 c11)], [.row 85 c11, .var 25 (.d c1)]⟩
def zqv : XS := .one .ret znx.xe
theorem zye : zqv.OK := XS.one_ok (z0d znx)
def zg4 (t0 : List T3) (del : List Int) : Option (((List Bool) × (List T3) × (List Int))) :=
 winK t0 0 (List.length t0) fun w =>
 (zha w del).bind fun r =>
 bif eqI r (-1) then
 some ((List.replicate (List.length t0) true), t0, del)
 else
 bif Nat.beq (List.length t0) (List.length t0) then
 (loopC z1v (r, W64 (r + 1), t0, del)).bind fun o =>
 bif subOk o.1 (List.length o.2.1 : Nat) (List.length o.2.1) then
 bif Nat.ble (addN o.1.toNat ((List.length o.2.1) - o.1.toNat)) (List.length o.2.1) then
 bif subOk 0 o.1 (List.length o.2.1) then
 some (((List.replicate o.1.toNat true), cpyL o.2.1 o.1.toNat ((List.length o.2.1) - o.1.toNat) (List.replicate ((List.length o.2.1) - o.1.toNat) (((0 : Int), (0 : Int)), ([] : List Int), List.replicate 8 (0 : Int))), o.2.2))
 else none
 else none
 else none
 else none
def zq9 : Sig := ⟨66, [.wn 0 c11, .fn 67 [.pt 1 (.one (.arr 8 .leaf)) []]], [.row 85 c11, .var 25 (.d c1)], 2, zqv⟩
def zp3 (x : (List T3) × (List Int)) : Option (((List Bool) × (List T3) × (List Int))) := zg4 x.1 x.2
theorem z13j : FnOK Try.prog zq9 zp3 :=
 fn_ok zno (h := (.two .no (.two .no (.two .no (.two (.two .no (.over (loopD z4j.xe z4n (loopC z1v)))) .no))))) Try.func66 (z0p [.den (.loop (subC (bodyC Try.f66) [1, 1, 1, 0, 1, 0, 0])) (loopD z4j.xe z4n (loopC z1v))] (by kernel_rfl) ⟨zn9, trivial⟩) (by kernel_rfl) zye (fun x => by kernel_rfl)
def z1iw : Env := ⟨[], [(entP zpw zo3), (entP zq9 zp3)], []⟩
theorem z1dy : EnvsOK Try.prog z1iw := ⟨z0x _, ze0 (zie zw7) (ze0 (zie z13j) (z0t _)), z0u _⟩
def zwg : Shp := ⟨1, 0, [(0, .d c10)], []⟩
def z11f : XS := .one .ret zwg.xe
theorem z1b8 : z11f.OK := XS.one_ok (z0d zwg)
def zpm (l : List T3) (base : List Int) : Option (((List T3))) :=
 (zj0 l).bind fun r =>
 bif Nat.beq (List.length r) (List.length r) then
 (zg4 r base).bind fun r2 =>
 winK r2.2.1 0 (lenW r2.1) fun w =>
 some w
 else none
def z10y : Sig := ⟨37, [.d c10, .d c1], [], 0, z11f⟩
def zzb (x : (List T3) × (List Int)) : Option (((List T3))) := zpm x.1 x.2
theorem z1gt : FnOK Try.prog z10y zzb :=
 fn_ok z1dy (h := .no) Try.func37 (z0p [] (by kernel_rfl) trivial) (by kernel_rfl) z1b8 (fun x => by kernel_rfl)
def z1ik : Env := ⟨[], [(entP zzn zwb), (entP zpw zo3)], []⟩
theorem zwc : EnvsOK Try.prog z1ik := ⟨z0x _, ze0 (zie z1e6) (ze0 (zie zw7) (z0t _)), z0u _⟩
def zg8 : Shp := ⟨31, 0, [(2, .pt 0 r15 []), (3, .pt 1 r15 [])], [.var 33 (.ag [.d c1, .wn 2 c14, .wn 3 c6, .d c16, .d (.arr 8 .bool)]), .var 33 (.ag [.d c1, .wn 4 c14, .wn 5 c6, .d c16, .d (.arr 8 .bool)]), .row 49 c14, .row 45 c6, .row 49 c14, .row 45 c6]⟩
def z6a : XS := .one (.exit 0) zg8.xe
theorem zpv : z6a.OK := XS.one_ok (z0d zg8)
def z5z : Shp := ⟨31, 0, [(2, .pt 0 r15 []), (3, .pt 1 r15 []), (13, .d c18), (14, .d (.int .i64)), (15, .d (.int .i64))], [.var 33 (.ag [.d c1, .wn 2 c14, .wn 3 c6, .d c16, .d (.arr 8 .bool)]), .var 33 (.ag [.d c1, .wn 4 c14, .wn 5 c6, .d c16, .d (.arr 8 .bool)]), .row 49 c14, .row 45 c6, .row 49 c14, .row 45 c6]⟩
abbrev zcv := (List T4) × Int × Int × (List Int) × (List Int) × (List Bool) × (List Int) × (List Int) × (List Bool) × (List T4) × (List T2) × (List T4) × (List T2)
abbrev zi6 := ((List Int) × (List Int) × (List Bool) × (List Int) × (List Int) × (List Bool) × (List T4) × (List T2) × (List T4) × (List T2))
def zcu (t13 : List T4) (t14 : Int) (t15 : Int) (t2 : List Int) (t22 : List Int) (t23 : List Bool) (out : List Int) (out2 : List Int) (out3 : List Bool) (t24 : List T4) (t25 : List T2) (out4 : List T4) (out5 : List T2) : Option (zcv ⊕ zi6) :=
 bif ltI t15 t14 then
 (idxI t13 t15).bind fun x =>
 (zj0 x.2.2.2.2.2).bind fun r =>
 winK r 0 (List.length r) fun w =>
 bif Nat.beq (List.length out4) (List.length out4) then
 appG (List.length out4) (List.length ([(x.1, x.2.1, x.2.2.1, x.2.2.2.1, x.2.2.2.2.1, w)] : List T4)) 112 fun _ =>
 bif Nat.beq (List.length t24) (List.length t24) then
 bif Nat.beq (List.length t25) (List.length t25) then
 bif Nat.beq (List.length (out4 ++ ([(x.1, x.2.1, x.2.2.1, x.2.2.2.1, x.2.2.2.2.1, w)] : List T4))) (List.length (out4 ++ ([(x.1, x.2.1, x.2.2.1, x.2.2.2.1, x.2.2.2.2.1, w)] : List T4))) then
 bif Nat.beq (List.length out5) (List.length out5) then
 some (.inl (t13, t14, W64 (t15 + 1), t2, t22, t23, out, out2, out3, t24, t25, out4 ++ ([(x.1, x.2.1, x.2.2.1, x.2.2.2.1, x.2.2.2.2.1, w)] : List T4), out5))
 else none
 else none
 else none
 else none
 else none
 else
 bif Nat.beq (List.length t24) (List.length t24) then
 bif Nat.beq (List.length t25) (List.length t25) then
 bif Nat.beq (List.length out4) (List.length out4) then
 bif Nat.beq (List.length out5) (List.length out5) then
 some (.inr (t2, t22, t23, out, out2, out3, t24, t25, out4, out5))
 else none
 else none
 else none
 else none
def z3b (s : zcv) : Option (zcv ⊕ zi6) := zcu s.1 s.2.1 s.2.2.1 s.2.2.2.1 s.2.2.2.2.1 s.2.2.2.2.2.1 s.2.2.2.2.2.2.1 s.2.2.2.2.2.2.2.1 s.2.2.2.2.2.2.2.2.1 s.2.2.2.2.2.2.2.2.2.1 s.2.2.2.2.2.2.2.2.2.2.1 s.2.2.2.2.2.2.2.2.2.2.2.1 s.2.2.2.2.2.2.2.2.2.2.2.2
theorem zr1 : SoundD Try.prog (.loop (subC (bodyC Try.f35) [1, 1, 1, 1, 0, 1, 0, 0])) (loopD z5z.xe z6a (loopC z3b)) :=
 z0v (S := z5z.xe) (X := z6a) zwc (h := (.two .no (.two .no (.two (.two .no (.two (.reg [4] []) .no)) .no)))) (z0p [] (by kernel_rfl) trivial) (z0d z5z) zpv z3b (fun s => by kernel_rfl)
def zw9 : Shp := ⟨1, 0, [(0, .ag [.d c1, .wn 0 c14, .wn 1 c6, .d c16, .d (.arr 8 .bool)])], [.row 49 c14, .row 45 c6]⟩
def z12n : XS := .one .ret zw9.xe
theorem z1cj : z12n.OK := XS.one_ok (z0d zw9)
def zpn (t0 : T5) : Option (((List Int) × (List Int) × (List Bool) × (List T4) × (List T2))) :=
 (zni t0.2.2.1).bind fun r =>
 z0s (List.length t0.2.1) (
 bif Nat.beq 0 (List.length ([] : List T4)) then
 bif Nat.beq 0 (List.length ([] : List T2)) then
 bif Nat.beq 0 (List.length ([] : List T4)) then
 bif Nat.beq (List.length r) (List.length r) then
 (loopC z3b (t0.2.1, (List.length t0.2.1 : Nat), 0, List.replicate 8 (0 : Int), List.replicate 8 (0 : Int), List.replicate 8 false, t0.1, t0.2.2.2.1, t0.2.2.2.2, ([] : List T4), ([] : List T2), ([] : List T4), r)).bind fun o =>
 bif Nat.beq (List.length o.2.2.2.2.2.2.2.2.1) (List.length o.2.2.2.2.2.2.2.2.1) then
 bif Nat.beq (List.length o.2.2.2.2.2.2.2.2.2) (List.length o.2.2.2.2.2.2.2.2.2) then
 some (o.2.2.2.1, o.2.2.2.2.1, o.2.2.2.2.2.1, o.2.2.2.2.2.2.2.2.1, o.2.2.2.2.2.2.2.2.2)
 else none
 else none
 else none
 else none
 else none
 else none)
def z11v : Sig := ⟨35, [.d c17], [], 0, z12n⟩
def zym (x : T5) : Option (((List Int) × (List Int) × (List Bool) × (List T4) × (List T2))) := zpn x
theorem z1gn : FnOK Try.prog z11v zym :=
 fn_ok zwc (h := (.two .no (.two (.reg [1000002] []) (.two .no (.two .no (.two (.two .no (.over (loopD z5z.xe z6a (loopC z3b)))) .no)))))) Try.func35 (z0p [.den (.loop (subC (bodyC Try.f35) [1, 1, 1, 1, 0, 1, 0, 0])) (loopD z5z.xe z6a (loopC z3b))] (by kernel_rfl) ⟨zr1, trivial⟩) (by kernel_rfl) z1cj (fun x => by kernel_rfl)
def z1g5 : Env := ⟨[], [], []⟩
theorem z1ck : EnvsOK Try.prog z1g5 := ⟨z0x _, z0t _, z0u _⟩
def zv1 : Shp := ⟨1, 1, [(0, .wn 1 c6)], [.row 45 c6, .row 45 c6]⟩
def zy3 : XS := .one .ret zv1.xe
theorem z1ac : zy3.OK := XS.one_ok (z0d zv1)
def zn4 (t0 : List T2) : Option (((List T2) × (List T2))) :=
 nilK (List.length t0) fun q =>
 bif q then
 bif Nat.beq 0 (List.length ([] : List T2)) then
 some (t0, ([] : List T2))
 else none
 else
 winK t0 0 (List.length t0) fun w =>
 appG (List.length ([] : List T2)) (List.length w) 96 fun _ =>
 bif Nat.beq (List.length w) (List.length w) then
 some (t0, w)
 else none
def zzq : Sig := ⟨61, [.wn 0 c6], [.row 45 c6], 1, zy3⟩
def zwk (x : (List T2)) : Option (((List T2) × (List T2))) := zn4 x
theorem z1eb : FnOK Try.prog zzq zwk :=
 fn_ok z1ck (h := (.two .no (.two .no (.two (.reg [2] []) .no)))) Try.func61 (z0p [] (by kernel_rfl) trivial) (by kernel_rfl) z1ac (fun x => by kernel_rfl)
def z1hj : Env := ⟨[], [(entP zzq zwk), (entP zqo zou)], []⟩
theorem z1dw : EnvsOK Try.prog z1hj := ⟨z0x _, ze0 (zie z1eb) (ze0 (zie z12r) (z0t _)), z0u _⟩
def zw2 : Shp := ⟨1, 1, [(0, .ws 1 c6)], [.row 45 c6, .row 45 c6]⟩
def z11u : XS := .one .ret zw2.xe
theorem z1cl : z11u.OK := XS.one_ok (z0d zw2)
def zpl (base : List Int) (l : List T2) : Option (((List Bool) × (List T2) × (List T2))) :=
 bif Nat.beq (List.length l) (List.length l) then
 (zn4 l).bind fun r =>
 bif Nat.beq (List.length r.2) (List.length r.2) then
 (zg5 r.2 base).bind fun r2 =>
 some ((List.replicate (lenW r2.1) true), r.1, r2.2.1)
 else none
 else none
def z11b : Sig := ⟨36, [.wn 0 c6, .d c1], [.row 45 c6], 1, z11u⟩
def zyj (x : (List Int) × (List T2)) : Option (((List Bool) × (List T2) × (List T2))) := zpl x.1 x.2
theorem z1fs : FnOK Try.prog z11b zyj :=
 fn_ok z1dw (h := .no) Try.func36 (z0p [] (by kernel_rfl) trivial) (by kernel_rfl) z1cl (fun x => by kernel_rfl)
def z1t6 : Env := ⟨[], [], []⟩
theorem z1q4 : EnvsOK Try.prog z1t6 := ⟨z0x _, z0t _, z0u _⟩
def z1f2 : Shp := ⟨1, 0, [(0, .d (.int .u32))], []⟩
def z1lt : XS := .one .ret z1f2.xe
theorem z1os : z1lt.OK := XS.one_ok (z0d z1f2)
def z1ds (v : List Int) (rep : Int) : Option ((Int)) :=
 bif ltI rep 1 then
 some 0
 else
 bif ltI 8 rep then
 some 0
 else
 bif inI (W64 (rep - 1)) 8 then
 (v[(W64 (rep - 1)).toNat]?).bind fun x =>
 some x
 else none
def z1lu : Sig := ⟨87, [.d c1, .d (.int .i64)], [], 0, z1lt⟩
def z1iy (x : (List Int) × Int) : Option ((Int)) := z1ds x.1 x.2
theorem z1r3 : FnOK Try.prog z1lu z1iy :=
 fn_ok z1q4 (h := .no) Try.func87 (z0p [] (by kernel_rfl) trivial) (by kernel_rfl) z1os (fun x => by kernel_rfl)
def z1uk : Env := ⟨[(entQ z1lu z1iy)], [], []⟩
theorem z1pq : EnvsOK Try.prog z1uk := ⟨z0o (z0q z1r3) (z0x _), z0t _, z0u _⟩
def z1f0 : Shp := ⟨1, 0, [(0, .d .bool)], []⟩
def z1ko : XS := .one .ret z1f0.xe
theorem z1oe : z1ko.OK := XS.one_ok (z0d z1f0)
def zxs (v : List Int) (id : T0) : Option ((Bool)) :=
 bif leI 1 id.2 then
 (z1ds v id.1).bind fun r =>
 some (leI id.2 r)
 else
 some false
def z1cq : Sig := ⟨69, [.d c1, .d c0], [], 0, z1ko⟩
def z16z (x : (List Int) × T0) : Option ((Bool)) := zxs x.1 x.2
theorem z1hv : FnOK Try.prog z1cq z16z :=
 fn_ok z1pq (h := .no) Try.func69 (z0p [] (by kernel_rfl) trivial) (by kernel_rfl) z1oe (fun x => by kernel_rfl)
def z1tn : Env := ⟨[], [], []⟩
theorem z1fg : EnvsOK Try.prog z1tn := ⟨z0x _, z0t _, z0u _⟩
def ztb : Shp := ⟨18, 0, [], []⟩
def zsz : Shp := ⟨18, 0, [(4, .d .bool)], []⟩
def zf2 : XS := .or (.exit 0) ztb.xe (.one .ret zsz.xe)
theorem z17i : zf2.OK := XS.or_ok (z0d ztb) (XS.one_ok (z0d zsz))
def zf1 : Shp := ⟨18, 0, [(3, .pt 0 (.one (.arr 8 .leaf)) []), (7, .d c1), (8, .d (.int .i64))], [.var 25 (.d c1)]⟩
abbrev zo2 := (List Int) × Int × (List Int)
abbrev zw5 := (Unit) ⊕ (Bool)
def zo8 (t7 : List Int) (t8 : Int) (b : List Int) : Option (zo2 ⊕ zw5) :=
 bif ltI t8 8 then
 (idxI t7 t8).bind fun x =>
 bif inI t8 8 then
 (b[t8.toNat]?).bind fun x2 =>
 bif ltI x2 x then
 some (.inr (.inr false))
 else
 some (.inl (t7, W64 (t8 + 1), b))
 else none
 else
 some (.inr (.inl ()))
def z7z (s : zo2) : Option (zo2 ⊕ zw5) := zo8 s.1 s.2.1 s.2.2
theorem z1a7 : SoundD Try.prog (.loop (subC (bodyC Try.f51) [1, 0, 1, 0, 0])) (loopD zf1.xe zf2 (loopC z7z)) :=
 z0v (S := zf1.xe) (X := zf2) z1fg (h := .no) (z0p [] (by kernel_rfl) trivial) (z0d zf1) z17i z7z (fun s => by kernel_rfl)
def z1eg : Shp := ⟨1, 0, [(0, .d .bool)], []⟩
def z1l7 : XS := .one .ret z1eg.xe
theorem z1pf : z1l7.OK := XS.one_ok (z0d z1eg)
def z1dl (a : List Int) (b : List Int) : Option ((Bool)) :=
 (loopC z7z (a, 0, b)).bind fun o =>
 Sum.elim (fun y =>
 some true) (fun y2 =>
 some y2) o
def z1lb : Sig := ⟨51, [.d c1, .d c1], [], 0, z1l7⟩
def z1in (x : (List Int) × (List Int)) : Option ((Bool)) := z1dl x.1 x.2
theorem z1rp : FnOK Try.prog z1lb z1in :=
 fn_ok z1fg (h := (.two .no (.two (.two .no (.over (loopD zf1.xe zf2 (loopC z7z)))) .no))) Try.func51 (z0p [.den (.loop (subC (bodyC Try.f51) [1, 0, 1, 0, 0])) (loopD zf1.xe zf2 (loopC z7z))] (by kernel_rfl) ⟨z1a7, trivial⟩) (by kernel_rfl) z1pf (fun x => by kernel_rfl)
def z1jp : Env := ⟨[], [], []⟩
theorem z1gi : EnvsOK Try.prog z1jp := ⟨z0x _, z0t _, z0u _⟩
def zy4 : Shp := ⟨1, 0, [(0, .d .bool)], []⟩
def z15m : XS := .one .ret zy4.xe
theorem z1e5 : z15m.OK := XS.one_ok (z0d zy4)
def zsj (v : T3) : Option ((Bool)) :=
 some (eqU c1 v.2.2 (List.replicate 8 (0 : Int)))
def zty : Sig := ⟨46, [.d c11], [], 0, z15m⟩
def zr5 (x : T3) : Option ((Bool)) := zsj x
theorem z12g : FnOK Try.prog zty zr5 :=
 fn_ok z1gi (h := .no) Try.func46 (z0p [] (by kernel_rfl) trivial) (by kernel_rfl) z1e5 (fun x => by kernel_rfl)
def z1j0 : Env := ⟨[(entQ zty zr5)], [], []⟩
theorem zwf : EnvsOK Try.prog z1j0 := ⟨z0o (z0q z12g) (z0x _), z0t _, z0u _⟩
def zj8 : Shp := ⟨20, 0, [(3, .wn 0 c11)], [.row 85 c11]⟩
def z8o : XS := .one (.exit 0) zj8.xe
theorem ztu : z8o.OK := XS.one_ok (z0d zj8)
def z8m : Shp := ⟨20, 0, [(3, .wn 0 c11), (6, .d c10), (7, .d (.int .i64)), (8, .d (.int .i64))], [.row 85 c11]⟩
abbrev zf6 := (List T3) × Int × Int × (List T3)
abbrev zle := ((List T3))
def zfb (t6 : List T3) (t7 : Int) (t8 : Int) (out : List T3) : Option (zf6 ⊕ zle) :=
 bif ltI t8 t7 then
 (idxI t6 t8).bind fun x =>
 (zsj x).bind fun r =>
 bif r then
 bif Nat.beq (List.length out) (List.length out) then
 appG (List.length out) (List.length ([x] : List T3)) 64 fun _ =>
 bif Nat.beq (List.length (out ++ ([x] : List T3))) (List.length (out ++ ([x] : List T3))) then
 some (.inl (t6, t7, W64 (t8 + 1), out ++ ([x] : List T3)))
 else none
 else none
 else
 bif Nat.beq (List.length out) (List.length out) then
 some (.inl (t6, t7, W64 (t8 + 1), out))
 else none
 else
 bif Nat.beq (List.length out) (List.length out) then
 some (.inr out)
 else none
def z4g (s : zf6) : Option (zf6 ⊕ zle) := zfb s.1 s.2.1 s.2.2.1 s.2.2.2
theorem zvb : SoundD Try.prog (.loop (subC (bodyC Try.f89) [1, 1, 0, 1, 0, 0])) (loopD z8m.xe z8o (loopC z4g)) :=
 z0v (S := z8m.xe) (X := z8o) zwf (h := .no) (z0p [] (by kernel_rfl) trivial) (z0d z8m) ztu z4g (fun s => by kernel_rfl)
def zw6 : Shp := ⟨1, 0, [(0, .d c10)], []⟩
def z11p : XS := .one .ret zw6.xe
theorem z1ao : z11p.OK := XS.one_ok (z0d zw6)
def zph (l : List T3) : Option (((List T3))) :=
 z0s (List.length l) (
 bif Nat.beq 0 (List.length ([] : List T3)) then
 (loopC z4g (l, (List.length l : Nat), 0, ([] : List T3))).bind fun o =>
 winK o 0 (List.length o) fun w =>
 some w
 else none)
def z11x : Sig := ⟨89, [.d c10], [], 0, z11p⟩
def zzm (x : (List T3)) : Option (((List T3))) := zph x
theorem z1gw : FnOK Try.prog z11x zzm :=
 fn_ok zwf (h := (.two .no (.two .no (.two (.two .no (.over (loopD z8m.xe z8o (loopC z4g)))) .no)))) Try.func89 (z0p [.den (.loop (subC (bodyC Try.f89) [1, 1, 0, 1, 0, 0])) (loopD z8m.xe z8o (loopC z4g))] (by kernel_rfl) ⟨zvb, trivial⟩) (by kernel_rfl) z1ao (fun x => by kernel_rfl)
def z1bp : Env := ⟨[(entQ z1cq z16z)], [], []⟩
theorem z16w : EnvsOK Try.prog z1bp := ⟨z0o (z0q z1hv) (z0x _), z0t _, z0u _⟩
def zsc : Shp := ⟨1, 0, [(0, .d .bool)], []⟩
def zun : XS := .one .ret zsc.xe
theorem z16d : zun.OK := XS.one_ok (z0d zsc)
def zjn (v : T3) (t1 : List Int) : Option ((Bool)) :=
 (zxs t1 v.1).bind fun r =>
 some (!r)
def zut : Sig := ⟨90, [.d c11, .rf (.d c1)], [], 0, zun⟩
def zt2 (x : T3 × (List Int)) : Option ((Bool)) := zjn x.1 x.2
theorem z1aa : FnOK Try.prog zut zt2 :=
 fn_ok z16w (h := .no) Try.func90 (z0p [] (by kernel_rfl) trivial) (by kernel_rfl) z16d (fun x => by kernel_rfl)
def z17c : Env := ⟨[(entQ zut zt2)], [], []⟩
theorem zp9 : EnvsOK Try.prog z17c := ⟨z0o (z0q z1aa) (z0x _), z0t _, z0u _⟩
def zgq : Shp := ⟨19, 0, [], []⟩
def zh5 : Shp := ⟨19, 0, [(4, .d (.int .i64))], []⟩
def z6s : XS := .or (.exit 0) zgq.xe (.one .ret zh5.xe)
theorem zqx : z6s.OK := XS.or_ok (z0d zgq) (XS.one_ok (z0d zh5))
def z6o : Shp := ⟨19, 0, [(0, .d c10), (1, .fn 90 [.rf (.d c1)]), (7, .d (.int .i64)), (8, .d (.int .i64))], []⟩
abbrev zdl := (List T3) × (List Int) × Int × Int
abbrev ziy := (Unit) ⊕ (Int)
def zdh (t0 : List T3) (f : List Int) (t7 : Int) (t8 : Int) : Option (zdl ⊕ ziy) :=
 bif ltI t8 t7 then
 (idxI t0 t8).bind fun x =>
 (zjn x f).bind fun r =>
 bif r then
 some (.inr (.inr t8))
 else
 some (.inl (t0, f, t7, W64 (t8 + 1)))
 else
 some (.inr (.inl ()))
def z2q (s : zdl) : Option (zdl ⊕ ziy) := zdh s.1 s.2.1 s.2.2.1 s.2.2.2
theorem zsq : SoundD Try.prog (.loop (subC (bodyC Try.f86) [1, 0, 1, 0, 0])) (loopD z6o.xe z6s (loopC z2q)) :=
 z0v (S := z6o.xe) (X := z6s) zp9 (h := .no) (z0p [] (by kernel_rfl) trivial) (z0d z6o) zqx z2q (fun s => by kernel_rfl)
def zp8 : Shp := ⟨1, 0, [(0, .d (.int .i64))], []⟩
def zsn : XS := .one .ret zp8.xe
theorem z10a : zsn.OK := XS.one_ok (z0d zp8)
def zgw (t0 : List T3) (f : List Int) : Option ((Int)) :=
 z0s (List.length t0) (
 (loopC z2q (t0, f, (List.length t0 : Nat), 0)).bind fun o =>
 Sum.elim (fun y =>
 some (-1)) (fun y2 =>
 some y2) o)
def zr3 : Sig := ⟨86, [.d c10, .fn 90 [.rf (.d c1)]], [], 0, zsn⟩
def zq0 (x : (List T3) × (List Int)) : Option ((Int)) := zgw x.1 x.2
theorem z15d : FnOK Try.prog zr3 zq0 :=
 fn_ok zp9 (h := (.two .no (.two (.two .no (.over (loopD z6o.xe z6s (loopC z2q)))) .no))) Try.func86 (z0p [.den (.loop (subC (bodyC Try.f86) [1, 0, 1, 0, 0])) (loopD z6o.xe z6s (loopC z2q))] (by kernel_rfl) ⟨zsq, trivial⟩) (by kernel_rfl) z10a (fun x => by kernel_rfl)
def z14s : Env := ⟨[(entQ zr3 zq0)], [], []⟩
theorem z10b : EnvsOK Try.prog z14s := ⟨z0o (z0q z15d) (z0x _), z0t _, z0u _⟩
def znu : Shp := ⟨1, 0, [(0, .d .bool)], []⟩
def zqu : XS := .one .ret znu.xe
theorem zz6 : zqu.OK := XS.one_ok (z0d znu)
def zkz (t0 : List T3) (f : List Int) : Option ((Bool)) :=
 (zgw t0 f).bind fun r =>
 some (leI 0 r)
def zq2 : Sig := ⟨88, [.d c10, .fn 90 [.rf (.d c1)]], [], 0, zqu⟩
def zoy (x : (List T3) × (List Int)) : Option ((Bool)) := zkz x.1 x.2
theorem z13f : FnOK Try.prog zq2 zoy :=
 fn_ok z10b (h := .no) Try.func88 (z0p [] (by kernel_rfl) trivial) (by kernel_rfl) zz6 (fun x => by kernel_rfl)
def z1fy : Env := ⟨[(entQ z11x zzm), (entQ zq2 zoy)], [], []⟩
theorem z1ba : EnvsOK Try.prog z1fy := ⟨z0o (z0q z1gw) (z0o (z0q z13f) (z0x _)), z0t _, z0u _⟩
def zuk : Shp := ⟨1, 0, [(0, .d .bool)], []⟩
def zy6 : XS := .one .ret zuk.xe
theorem z1ai : zy6.OK := XS.one_ok (z0d zuk)
def zn2 (l : List T3) (seen : List Int) : Option ((Bool)) :=
 (zph l).bind fun r =>
 (zkz r seen).bind fun r2 =>
 some r2
def zzt : Sig := ⟨70, [.d c10, .d c1], [], 0, zy6⟩
def zwh (x : (List T3) × (List Int)) : Option ((Bool)) := zn2 x.1 x.2
theorem z1e1 : FnOK Try.prog zzt zwh :=
 fn_ok z1ba (h := .no) Try.func70 (z0p [] (by kernel_rfl) trivial) (by kernel_rfl) z1ai (fun x => by kernel_rfl)
def z1fx : Env := ⟨[], [], []⟩
theorem z1cg : EnvsOK Try.prog z1fx := ⟨z0x _, z0t _, z0u _⟩
def zur : Shp := ⟨1, 0, [(0, .d .bool)], []⟩
def zza : XS := .one .ret zur.xe
theorem z1ag : zza.OK := XS.one_ok (z0d zur)
def znb (x : T2) (t1 : T4) : Option ((Bool)) :=
 bif eqU c0 x.2.2.2.1 t1.1 then
 some true
 else
 some (eqU c0 x.2.1 t1.1)
def zy0 : Sig := ⟨72, [.d c6, .rf (.d c14)], [], 0, zza⟩
def zwd (x : T2 × T4) : Option ((Bool)) := znb x.1 x.2
theorem z1e9 : FnOK Try.prog zy0 zwd :=
 fn_ok z1cg (h := .no) Try.func72 (z0p [] (by kernel_rfl) trivial) (by kernel_rfl) z1ag (fun x => by kernel_rfl)
def z18d : Env := ⟨[(entQ zy0 zwd)], [], []⟩
theorem zoc : EnvsOK Try.prog z18d := ⟨z0o (z0q z1e9) (z0x _), z0t _, z0u _⟩
def zh6 : Shp := ⟨19, 0, [], []⟩
def zgz : Shp := ⟨19, 0, [(4, .d (.int .i64))], []⟩
def z6e : XS := .or (.exit 0) zh6.xe (.one .ret zgz.xe)
theorem zqz : z6e.OK := XS.or_ok (z0d zh6) (XS.one_ok (z0d zgz))
def z6n : Shp := ⟨19, 0, [(0, .d c5), (1, .fn 72 [.rf (.d c14)]), (7, .d (.int .i64)), (8, .d (.int .i64))], []⟩
abbrev zdf := (List T2) × T4 × Int × Int
abbrev zis := (Unit) ⊕ (Int)
def zdi (t0 : List T2) (f : T4) (t7 : Int) (t8 : Int) : Option (zdf ⊕ zis) :=
 bif ltI t8 t7 then
 (idxI t0 t8).bind fun x =>
 (znb x f).bind fun r =>
 bif r then
 some (.inr (.inr t8))
 else
 some (.inl (t0, f, t7, W64 (t8 + 1)))
 else
 some (.inr (.inl ()))
def z2r (s : zdf) : Option (zdf ⊕ zis) := zdi s.1 s.2.1 s.2.2.1 s.2.2.2
theorem zs4 : SoundD Try.prog (.loop (subC (bodyC Try.f85) [1, 0, 1, 0, 0])) (loopD z6n.xe z6e (loopC z2r)) :=
 z0v (S := z6n.xe) (X := z6e) zoc (h := .no) (z0p [] (by kernel_rfl) trivial) (z0d z6n) zqz z2r (fun s => by kernel_rfl)
def zpa : Shp := ⟨1, 0, [(0, .d (.int .i64))], []⟩
def zs5 : XS := .one .ret zpa.xe
theorem z10f : zs5.OK := XS.one_ok (z0d zpa)
def zhf (t0 : List T2) (f : T4) : Option ((Int)) :=
 z0s (List.length t0) (
 (loopC z2r (t0, f, (List.length t0 : Nat), 0)).bind fun o =>
 Sum.elim (fun y =>
 some (-1)) (fun y2 =>
 some y2) o)
def zru : Sig := ⟨85, [.d c5, .fn 72 [.rf (.d c14)]], [], 0, zs5⟩
def zqi (x : (List T2) × T4) : Option ((Int)) := zhf x.1 x.2
theorem z15k : FnOK Try.prog zru zqi :=
 fn_ok zoc (h := (.two .no (.two (.two .no (.over (loopD z6n.xe z6e (loopC z2r)))) .no))) Try.func85 (z0p [.den (.loop (subC (bodyC Try.f85) [1, 0, 1, 0, 0])) (loopD z6n.xe z6e (loopC z2r))] (by kernel_rfl) ⟨zs4, trivial⟩) (by kernel_rfl) z10f (fun x => by kernel_rfl)
def z10c : Env := ⟨[(entQ zru zqi)], [], []⟩
theorem zx9 : EnvsOK Try.prog z10c := ⟨z0o (z0q z15k) (z0x _), z0t _, z0u _⟩
def zl6 : Shp := ⟨1, 0, [(0, .d .bool)], []⟩
def znj : XS := .one .ret zl6.xe
theorem zvj : znj.OK := XS.one_ok (z0d zl6)
def zej (t0 : List T2) (f : T4) : Option ((Bool)) :=
 (zhf t0 f).bind fun r =>
 some (leI 0 r)
def znv : Sig := ⟨71, [.d c5, .fn 72 [.rf (.d c14)]], [], 0, znj⟩
def zmv (x : (List T2) × T4) : Option ((Bool)) := zej x.1 x.2
theorem zzj : FnOK Try.prog znv zmv :=
 fn_ok zx9 (h := .no) Try.func71 (z0p [] (by kernel_rfl) trivial) (by kernel_rfl) zvj (fun x => by kernel_rfl)
def z1kj : Env := ⟨[(entQ z1cq z16z), (entQ z1lb z1in), (entQ zzt zwh), (entQ znv zmv)], [], []⟩
theorem zyb : EnvsOK Try.prog z1kj := ⟨z0o (z0q z1hv) (z0o (z0q z1rp) (z0o (z0q z1e1) (z0o (z0q zzj) (z0x _)))), z0t _, z0u _⟩
def zkm : Shp := ⟨45, 0, [(3, .pt 0 r15 []), (4, .pt 1 r13 [])], [.var 33 (.d c17), .var 49 (.d c14)]⟩
def zkq : Shp := ⟨45, 0, [(6, .d .bool)], []⟩
def z9r : XS := .or (.exit 0) zkm.xe (.one .ret zkq.xe)
theorem zuy : z9r.OK := XS.or_ok (z0d zkm) (XS.one_ok (z0d zkq))
def z9o : Shp := ⟨45, 0, [(3, .pt 0 r15 []), (4, .pt 1 r13 []), (5, .pt 2 (.one (.arr 8 .leaf)) []), (29, .d c10), (30, .d (.int .i64)), (31, .d (.int .i64))], [.var 33 (.d c17), .var 49 (.d c14), .var 25 (.d c1)]⟩
abbrev zg0 := (List T3) × Int × Int × T5 × T4 × (List Int)
abbrev zmf := (T5 × T4) ⊕ (Bool)
def zfw (t29 : List T3) (t30 : Int) (t31 : Int) (t3 : T5) (o : T4) (base : List Int) : Option (zg0 ⊕ zmf) :=
 bif ltI t31 t30 then
 (idxI t29 t31).bind fun x =>
 (zxs base x.1).bind fun r =>
 bif !r then
 some (.inr (.inr true))
 else
 some (.inl (t29, t30, W64 (t31 + 1), t3, o, base))
 else
 some (.inr (.inl (t3, o)))
def z3n (s : zg0) : Option (zg0 ⊕ zmf) := zfw s.1 s.2.1 s.2.2.1 s.2.2.2.1 s.2.2.2.2.1 s.2.2.2.2.2
theorem zvq : SoundD Try.prog (.loop (subC (bodyC Try.f40) [1, 1, 0, 1, 0, 0])) (loopD z9o.xe z9r (loopC z3n)) :=
 z0v (S := z9o.xe) (X := z9r) zyb (h := .no) (z0p [] (by kernel_rfl) trivial) (z0d z9o) zuy z3n (fun s => by kernel_rfl)
def zzp : Shp := ⟨1, 0, [(0, .d .bool)], []⟩
def z14w : XS := .one .ret zzp.xe
theorem z1e2 : z14w.OK := XS.one_ok (z0d zzp)
def zma (t0 : T5) (o : T4) (base : List Int) : Option ((Bool)) :=
 (zxs base o.1).bind fun r =>
 bif !r then
 some true
 else
 (z1dl o.2.2.2.2.1 base).bind fun r2 =>
 bif !r2 then
 some true
 else
 (zn2 o.2.2.2.2.2 o.2.2.2.2.1).bind fun r3 =>
 bif r3 then
 some true
 else
 z0s (List.length o.2.2.2.2.2) (
 (loopC z3n (o.2.2.2.2.2, (List.length o.2.2.2.2.2 : Nat), 0, t0, o, base)).bind fun o2 =>
 Sum.elim (fun y =>
 (zej y.1.2.2.1 y.2).bind fun r4 =>
 some r4) (fun y2 =>
 some y2) o2)
def zth : Sig := ⟨40, [.d c17, .d c14, .d c1], [], 0, z14w⟩
def zrl (x : T5 × T4 × (List Int)) : Option ((Bool)) := zma x.1 x.2.1 x.2.2
theorem z10q : FnOK Try.prog zth zrl :=
 fn_ok zyb (h := (.two .no (.two .no (.two (.two .no (.over (loopD z9o.xe z9r (loopC z3n)))) .no)))) Try.func40 (z0p [.den (.loop (subC (bodyC Try.f40) [1, 1, 0, 1, 0, 0])) (loopD z9o.xe z9r (loopC z3n))] (by kernel_rfl) ⟨zvq, trivial⟩) (by kernel_rfl) z1e2 (fun x => by kernel_rfl)
def z1e7 : Env := ⟨[(entQ zth zrl)], [], []⟩
theorem z1ae : EnvsOK Try.prog z1e7 := ⟨z0o (z0q z10q) (z0x _), z0t _, z0u _⟩
def zt5 : Shp := ⟨1, 0, [(0, .d .bool)], []⟩
def zwq : XS := .one .ret zt5.xe
theorem z18e : zwq.OK := XS.one_ok (z0d zt5)
def zgu (o : T4) (t1 : List Int) (t12 : List T4) (t13 : List T2) (t14 : List Int) (t15 : List Bool) (t2 : List Int) : Option ((Bool)) :=
 (zma (t1, t12, t13, t14, t15) o t2).bind fun r =>
 some (!r)
def zo7 : Sig := ⟨39, [.d c14, .rf (.ag [.d c1, .d c18, .d c5, .d c16, .d (.arr 8 .bool)]), .rf (.d c1)], [], 0, zwq⟩
def zmu (x : T4 × (List Int) × (List T4) × (List T2) × (List Int) × (List Bool) × (List Int)) : Option ((Bool)) := zgu x.1 x.2.1 x.2.2.1 x.2.2.2.1 x.2.2.2.2.1 x.2.2.2.2.2.1 x.2.2.2.2.2.2
theorem zue : FnOK Try.prog zo7 zmu :=
 fn_ok z1ae (h := .no) Try.func39 (z0p [] (by kernel_rfl) trivial) (by kernel_rfl) z18e (fun x => by kernel_rfl)
def z17e : Env := ⟨[(entQ zo7 zmu)], [], []⟩
theorem zoh : EnvsOK Try.prog z17e := ⟨z0o (z0q zue) (z0x _), z0t _, z0u _⟩
def zhd : Shp := ⟨19, 0, [], []⟩
def zgs : Shp := ⟨19, 0, [(4, .d (.int .i64))], []⟩
def z6h : XS := .or (.exit 0) zhd.xe (.one .ret zgs.xe)
theorem zr0 : z6h.OK := XS.or_ok (z0d zhd) (XS.one_ok (z0d zgs))
def z6t : Shp := ⟨19, 0, [(0, .d c18), (1, .fn 39 [.rf (.ag [.d c1, .d c18, .d c5, .d c16, .d (.arr 8 .bool)]), .rf (.d c1)]), (7, .d (.int .i64)), (8, .d (.int .i64))], []⟩
abbrev zdj := (List T4) × (List Int) × (List T4) × (List T2) × (List Int) × (List Bool) × (List Int) × Int × Int
abbrev zj3 := (Unit) ⊕ (Int)
def zda (t0 : List T4) (f : List Int) (f2 : List T4) (f3 : List T2) (f4 : List Int) (f5 : List Bool) (f6 : List Int) (t7 : Int) (t8 : Int) : Option (zdj ⊕ zj3) :=
 bif ltI t8 t7 then
 (idxI t0 t8).bind fun x =>
 (zgu x f f2 f3 f4 f5 f6).bind fun r =>
 bif r then
 some (.inr (.inr t8))
 else
 some (.inl (t0, f, f2, f3, f4, f5, f6, t7, W64 (t8 + 1)))
 else
 some (.inr (.inl ()))
def z2u (s : zdj) : Option (zdj ⊕ zj3) := zda s.1 s.2.1 s.2.2.1 s.2.2.2.1 s.2.2.2.2.1 s.2.2.2.2.2.1 s.2.2.2.2.2.2.1 s.2.2.2.2.2.2.2.1 s.2.2.2.2.2.2.2.2
theorem zrz : SoundD Try.prog (.loop (subC (bodyC Try.f68) [1, 0, 1, 0, 0])) (loopD z6t.xe z6h (loopC z2u)) :=
 z0v (S := z6t.xe) (X := z6h) zoh (h := .no) (z0p [] (by kernel_rfl) trivial) (z0d z6t) zr0 z2u (fun s => by kernel_rfl)
def zov : Shp := ⟨1, 0, [(0, .d (.int .i64))], []⟩
def zrs : XS := .one .ret zov.xe
theorem z10d : zrs.OK := XS.one_ok (z0d zov)
def zhc (t0 : List T4) (f : List Int) (f2 : List T4) (f3 : List T2) (f4 : List Int) (f5 : List Bool) (f6 : List Int) : Option ((Int)) :=
 z0s (List.length t0) (
 (loopC z2u (t0, f, f2, f3, f4, f5, f6, (List.length t0 : Nat), 0)).bind fun o =>
 Sum.elim (fun y =>
 some (-1)) (fun y2 =>
 some y2) o)
def zrj : Sig := ⟨68, [.d c18, .fn 39 [.rf (.ag [.d c1, .d c18, .d c5, .d c16, .d (.arr 8 .bool)]), .rf (.d c1)]], [], 0, zrs⟩
def zqq (x : (List T4) × (List Int) × (List T4) × (List T2) × (List Int) × (List Bool) × (List Int)) : Option ((Int)) := zhc x.1 x.2.1 x.2.2.1 x.2.2.2.1 x.2.2.2.2.1 x.2.2.2.2.2.1 x.2.2.2.2.2.2
theorem z13t : FnOK Try.prog zrj zqq :=
 fn_ok zoh (h := (.two .no (.two (.two .no (.over (loopD z6t.xe z6h (loopC z2u)))) .no))) Try.func68 (z0p [.den (.loop (subC (bodyC Try.f68) [1, 0, 1, 0, 0])) (loopD z6t.xe z6h (loopC z2u))] (by kernel_rfl) ⟨zrz, trivial⟩) (by kernel_rfl) z10d (fun x => by kernel_rfl)
def z14q : Env := ⟨[(entQ zrj zqq), (entQ zo7 zmu)], [], []⟩
theorem znn : EnvsOK Try.prog z14q := ⟨z0o (z0q z13t) (z0o (z0q zue) (z0x _)), z0t _, z0u _⟩
def zeh : Shp := ⟨42, 3, [(0, .wn 0 c14), (5, .d (.int .i64))], [.row 49 c14, .var 33 (.ag [.d c1, .wn 0 c14, .ws 3 c6, .d c16, .d (.arr 8 .bool)]), .var 25 (.d c1), .row 45 c6]⟩
def z4i : XS := .one (.exit 0) zeh.xe
theorem zm2 : z4i.OK := XS.one_ok (z0d zeh)
def z4m : Shp := ⟨42, 3, [(0, .wn 0 c14), (1, .fn 39 [.pt 1 r15 [], .pt 2 (.one (.arr 8 .leaf)) []]), (5, .d (.int .i64)), (6, .d (.int .i64))], [.row 49 c14, .var 33 (.ag [.d c1, .wn 0 c14, .ws 3 c6, .d c16, .d (.arr 8 .bool)]), .var 25 (.d c1), .row 45 c6]⟩
abbrev zaz := Int × Int × (List T4) × (List Int) × (List Bool) × (List Int) × (List Bool) × (List Int) × (List T2)
abbrev zfe := (Int × (List T4) × (List Int) × (List Bool) × (List Int) × (List Bool) × (List Int) × (List T2))
def zb5 (i : Int) (j : Int) (t0 : List T4) (del : List Int) (del2 : List Bool) (del3 : List Int) (del4 : List Bool) (del5 : List Int) (del6 : List T2) : Option (zaz ⊕ zfe) :=
 z0s (List.length t0) (
 bif ltI j (List.length t0 : Nat) then
 bif inI j (List.length t0) then
 (t0[j.toNat]?).bind fun x =>
 winK t0 0 (List.length t0) fun w =>
 winK del6 0 (lenW del2) fun w2 =>
 (zgu x del w w2 del3 del4 del5).bind fun r =>
 bif !r then
 bif inI i (List.length t0) then
 (t0[i.toNat]?).bind fun _x =>
 bif Nat.beq (List.length t0) (List.length (t0.set i.toNat x)) then
 bif Nat.beq (List.length t0) (List.length (t0.set i.toNat x)) then
 some (.inl (W64 (i + 1), W64 (j + 1), t0.set i.toNat x, del, (List.replicate (lenW del2) true), del3, del4, del5, del6))
 else none
 else none
 else none
 else
 bif Nat.beq (List.length t0) (List.length t0) then
 bif Nat.beq (List.length t0) (List.length t0) then
 some (.inl (i, W64 (j + 1), t0, del, (List.replicate (lenW del2) true), del3, del4, del5, del6))
 else none
 else none
 else none
 else
 bif Nat.beq (List.length t0) (List.length t0) then
 bif Nat.beq (List.length t0) (List.length t0) then
 some (.inr (i, t0, del, (List.replicate (lenW del2) true), del3, del4, del5, del6))
 else none
 else none)
def z1u (s : zaz) : Option (zaz ⊕ zfe) := zb5 s.1 s.2.1 s.2.2.1 s.2.2.2.1 s.2.2.2.2.1 s.2.2.2.2.2.1 s.2.2.2.2.2.2.1 s.2.2.2.2.2.2.2.1 s.2.2.2.2.2.2.2.2
theorem zn6 : SoundD Try.prog (.loop (subC (bodyC Try.f38) [1, 1, 1, 0, 1, 0, 0])) (loopD z4m.xe z4i (loopC z1u)) :=
 z0v (S := z4m.xe) (X := z4i) znn (h := .no) (z0p [] (by kernel_rfl) trivial) (z0d z4m) zm2 z1u (fun s => by kernel_rfl)
def znp : Shp := ⟨1, 3, [(0, .ws 0 c14)], [.row 49 c14, .var 33 (.ag [.d c1, .wn 0 c14, .ws 3 c6, .d c16, .d (.arr 8 .bool)]), .var 25 (.d c1), .row 45 c6]⟩
def zqt : XS := .one .ret znp.xe
theorem zzf : zqt.OK := XS.one_ok (z0d znp)
def zg3 (t0 : List T4) (del : List Int) (del2 : List Bool) (del3 : List Int) (del4 : List Bool) (del5 : List Int) (del6 : List T2) : Option (((List Bool) × (List T4) × (List Int) × (List Bool) × (List Int) × (List Bool) × (List Int) × (List T2))) :=
 winK t0 0 (List.length t0) fun w =>
 winK t0 0 (List.length t0) fun w2 =>
 winK del6 0 (lenW del2) fun w3 =>
 (zhc w del w2 w3 del3 del4 del5).bind fun r =>
 bif eqI r (-1) then
 bif Nat.beq (List.length t0) (List.length t0) then
 some ((List.replicate (List.length t0) true), t0, del, (List.replicate (lenW del2) true), del3, del4, del5, del6)
 else none
 else
 bif Nat.beq (List.length t0) (List.length t0) then
 bif Nat.beq (List.length t0) (List.length t0) then
 (loopC z1u (r, W64 (r + 1), t0, del, (List.replicate (lenW del2) true), del3, del4, del5, del6)).bind fun o =>
 bif subOk o.1 (List.length o.2.1 : Nat) (List.length o.2.1) then
 bif Nat.ble (addN o.1.toNat ((List.length o.2.1) - o.1.toNat)) (List.length o.2.1) then
 bif subOk 0 o.1 (List.length o.2.1) then
 bif Nat.beq (List.length o.2.1) (List.length (cpyL o.2.1 o.1.toNat ((List.length o.2.1) - o.1.toNat) (List.replicate ((List.length o.2.1) - o.1.toNat) (((0 : Int), (0 : Int)), false, ((0 : Int), (0 : Int)), ([] : List Int), List.replicate 8 (0 : Int), ([] : List T3))))) then
 some (((List.replicate o.1.toNat true), cpyL o.2.1 o.1.toNat ((List.length o.2.1) - o.1.toNat) (List.replicate ((List.length o.2.1) - o.1.toNat) (((0 : Int), (0 : Int)), false, ((0 : Int), (0 : Int)), ([] : List Int), List.replicate 8 (0 : Int), ([] : List T3))), o.2.2.1, (List.replicate (lenW o.2.2.2.1) true), o.2.2.2.2.1, o.2.2.2.2.2.1, o.2.2.2.2.2.2.1, o.2.2.2.2.2.2.2))
 else none
 else none
 else none
 else none
 else none
 else none
def zq8 : Sig := ⟨38, [.wn 0 c14, .fn 39 [.pt 1 r15 [], .pt 2 (.one (.arr 8 .leaf)) []]], [.row 49 c14, .var 33 (.ag [.d c1, .wn 0 c14, .ws 3 c6, .d c16, .d (.arr 8 .bool)]), .var 25 (.d c1), .row 45 c6], 3, zqt⟩
def zor (x : (List T4) × (List Int) × (List Bool) × (List Int) × (List Bool) × (List Int) × (List T2)) : Option (((List Bool) × (List T4) × (List Int) × (List Bool) × (List Int) × (List Bool) × (List Int) × (List T2))) := zg3 x.1 x.2.1 x.2.2.1 x.2.2.2.1 x.2.2.2.2.1 x.2.2.2.2.2.1 x.2.2.2.2.2.2
theorem z13g : FnOK Try.prog zq8 zor :=
 fn_ok znn (h := (.two .no (.two .no (.two .no (.two (.two .no (.over (loopD z4m.xe z4i (loopC z1u)))) .no))))) Try.func38 (z0p [.den (.loop (subC (bodyC Try.f38) [1, 1, 1, 0, 1, 0, 0])) (loopD z4m.xe z4i (loopC z1u))] (by kernel_rfl) ⟨zn6, trivial⟩) (by kernel_rfl) zzf (fun x => by kernel_rfl)
def z1j3 : Env := ⟨[(entQ z10y zzb)], [(entP z11v zym), (entP z11b zyj), (entP zq8 zor)], []⟩
theorem zwj : EnvsOK Try.prog z1j3 := ⟨z0o (z0q z1gt) (z0x _), ze0 (zie z1gn) (ze0 (zie z1fs) (ze0 (zie z13g) (z0t _))), z0u _⟩
def zi8 : Shp := ⟨41, 0, [(3, .pt 0 (.one (.arr 8 .leaf)) []), (4, .pt 1 r15 []), (5, .pt 2 r15 [])], [.var 25 (.d c1), .var 33 (.ag [.d c1, .wn 3 c14, .wn 4 c6, .d c16, .d (.arr 8 .bool)]), .var 33 (.ag [.d c1, .wn 5 c14, .ws 6 c6, .d c16, .d (.arr 8 .bool)]), .row 49 c14, .row 45 c6, .row 49 c14, .row 45 c6]⟩
def z7a : XS := .one (.exit 0) zi8.xe
theorem zsf : z7a.OK := XS.one_ok (z0d zi8)
def z7h : Shp := ⟨41, 0, [(3, .pt 0 (.one (.arr 8 .leaf)) []), (4, .pt 1 r15 []), (5, .pt 2 r15 []), (17, .d (.int .i64)), (18, .d (.int .i64))], [.var 25 (.d c1), .var 33 (.ag [.d c1, .wn 3 c14, .wn 4 c6, .d c16, .d (.arr 8 .bool)]), .var 33 (.ag [.d c1, .wn 5 c14, .ws 6 c6, .d c16, .d (.arr 8 .bool)]), .row 49 c14, .row 45 c6, .row 49 c14, .row 45 c6]⟩
abbrev zeb := Int × Int × (List Int) × (List Int) × (List Int) × (List Bool) × (List Int) × (List Bool) × (List Int) × (List Bool) × (List T4) × (List T2) × (List T4) × (List T2)
abbrev zjc := ((List Int) × (List Int) × (List Int) × (List Bool) × (List Int) × (List Bool) × (List Int) × (List Bool) × (List T4) × (List T2) × (List T4) × (List T2))
def ze7 (t17 : Int) (t18 : Int) (base : List Int) (t4 : List Int) (t42 : List Int) (t43 : List Bool) (out : List Int) (out2 : List Bool) (out3 : List Int) (out4 : List Bool) (t44 : List T4) (t45 : List T2) (out5 : List T4) (out6 : List T2) : Option (zeb ⊕ zjc) :=
 bif ltI t18 t17 then
 bif inI t18 (List.length out5) then
 (out5[t18.toNat]?).bind fun x =>
 (zpm x.2.2.2.2.2 base).bind fun r =>
 (out5[t18.toNat]?).bind fun x2 =>
 bif Nat.beq (List.length t44) (List.length t44) then
 bif Nat.beq (List.length t45) (List.length t45) then
 bif Nat.beq (List.length out5) (List.length (out5.set t18.toNat (x2.1, x2.2.1, x2.2.2.1, x2.2.2.2.1, x2.2.2.2.2.1, r))) then
 some (.inl (t17, W64 (t18 + 1), base, t4, t42, t43, out, (List.replicate (lenW out2) true), out3, out4, t44, t45, out5.set t18.toNat (x2.1, x2.2.1, x2.2.2.1, x2.2.2.2.1, x2.2.2.2.2.1, r), out6))
 else none
 else none
 else none
 else none
 else
 bif Nat.beq (List.length t44) (List.length t44) then
 bif Nat.beq (List.length t45) (List.length t45) then
 bif Nat.beq (List.length out5) (List.length out5) then
 some (.inr (base, t4, t42, t43, out, (List.replicate (lenW out2) true), out3, out4, t44, t45, out5, out6))
 else none
 else none
 else none
def z3l (s : zeb) : Option (zeb ⊕ zjc) := ze7 s.1 s.2.1 s.2.2.1 s.2.2.2.1 s.2.2.2.2.1 s.2.2.2.2.2.1 s.2.2.2.2.2.2.1 s.2.2.2.2.2.2.2.1 s.2.2.2.2.2.2.2.2.1 s.2.2.2.2.2.2.2.2.2.1 s.2.2.2.2.2.2.2.2.2.2.1 s.2.2.2.2.2.2.2.2.2.2.2.1 s.2.2.2.2.2.2.2.2.2.2.2.2.1 s.2.2.2.2.2.2.2.2.2.2.2.2.2
theorem zsw : SoundD Try.prog (.loop (subC (bodyC Try.f12) [1, 1, 1, 0, 1, 0, 0])) (loopD z7h.xe z7a (loopC z3l)) :=
 z0v (S := z7h.xe) (X := z7a) zwj (h := .no) (z0p [] (by kernel_rfl) trivial) (z0d z7h) zsf z3l (fun s => by kernel_rfl)
def zw8 : Shp := ⟨1, 0, [(0, .d c17)], []⟩
def z10o : XS := .one .ret zw8.xe
theorem z1cr : z10o.OK := XS.one_ok (z0d zw8)
def zgn (t0 : T5) (base : List Int) : Option ((T5)) :=
 (zpn t0).bind fun r =>
 bif Nat.beq (List.length r.2.2.2.2) (List.length r.2.2.2.2) then
 (zpl base r.2.2.2.2).bind fun r2 =>
 z0s (List.length r.2.2.2.1) (
 bif Nat.beq 0 (List.length ([] : List T4)) then
 bif Nat.beq 0 (List.length ([] : List T2)) then
 bif Nat.beq (List.length r.2.2.2.1) (List.length r.2.2.2.1) then
 (loopC z3l ((List.length r.2.2.2.1 : Nat), 0, base, List.replicate 8 (0 : Int), List.replicate 8 (0 : Int), List.replicate 8 false, r.1, (List.replicate (lenW r2.1) true), r.2.1, r.2.2.1, ([] : List T4), ([] : List T2), r.2.2.2.1, r2.2.2)).bind fun o =>
 bif Nat.beq (List.length o.2.2.2.2.2.2.2.2.2.2.1) (List.length o.2.2.2.2.2.2.2.2.2.2.1) then
 bif Nat.beq (List.length o.2.2.2.2.2.2.2.2.2.2.1) (List.length o.2.2.2.2.2.2.2.2.2.2.1) then
 (zg3 o.2.2.2.2.2.2.2.2.2.2.1 o.2.2.2.2.1 (List.replicate (lenW o.2.2.2.2.2.1) true) o.2.2.2.2.2.2.1 o.2.2.2.2.2.2.2.1 o.1 o.2.2.2.2.2.2.2.2.2.2.2).bind fun r3 =>
 winK r3.2.1 0 (lenW r3.1) fun w =>
 winK r3.2.2.2.2.2.2.2 0 (lenW r3.2.2.2.1) fun w2 =>
 some (r3.2.2.1, w, w2, r3.2.2.2.2.1, r3.2.2.2.2.2.1)
 else none
 else none
 else none
 else none
 else none)
 else none
def zs7 : Sig := ⟨12, [.d c17, .d c1], [], 0, z10o⟩
def zps (x : T5 × (List Int)) : Option ((T5)) := zgn x.1 x.2
theorem zz0 : FnOK Try.prog zs7 zps :=
 fn_ok zwj (h := (.two .no (.two .no (.two .no (.two (.two .no (.over (loopD z7h.xe z7a (loopC z3l)))) .no))))) Try.func12 (z0p [.den (.loop (subC (bodyC Try.f12) [1, 1, 1, 0, 1, 0, 0])) (loopD z7h.xe z7a (loopC z3l))] (by kernel_rfl) ⟨zsw, trivial⟩) (by kernel_rfl) z1cr (fun x => by kernel_rfl)
def z1lz : Env := ⟨[], [], []⟩
theorem z1jb : EnvsOK Try.prog z1lz := ⟨z0x _, z0t _, z0u _⟩
def z10z : Shp := ⟨1, 0, [(0, .d .bool)], []⟩
def z19n : XS := .one .ret z10z.xe
theorem z1gk : z19n.OK := XS.one_ok (z0d z10z)
def zub (x : T2) : Option ((Bool)) :=
 some (eqU c1 x.2.2.2.2 (List.replicate 8 (0 : Int)))
def z19r : Sig := ⟨45, [.d c6], [], 0, z19n⟩
def z16m (x : T2) : Option ((Bool)) := zub x
theorem z1jv : FnOK Try.prog z19r z16m :=
 fn_ok z1jb (h := .no) Try.func45 (z0p [] (by kernel_rfl) trivial) (by kernel_rfl) z1gk (fun x => by kernel_rfl)
def z1om : Env := ⟨[(entQ z19r z16m), (entQ zty zr5), (entQ zth zrl)], [], []⟩
theorem zne : EnvsOK Try.prog z1om := ⟨z0o (z0q z1jv) (z0o (z0q z12g) (z0o (z0q z10q) (z0x _))), z0t _, z0u _⟩
def zm5 : Shp := ⟨53, 0, [(1, .pt 0 r15 []), (3, .d (.int .i64))], [.var 33 (.d c17)]⟩
def zbe : XS := .one (.exit 0) zm5.xe
theorem zx0 : zbe.OK := XS.one_ok (z0d zm5)
def zat : Shp := ⟨53, 0, [(1, .pt 0 r15 []), (3, .d (.int .i64)), (11, .d c5), (12, .d (.int .i64)), (13, .d (.int .i64))], [.var 33 (.d c17)]⟩
abbrev zhj := Int × (List T2) × Int × Int × T5
abbrev zpf := (Int × T5)
def zhx (n : Int) (t11 : List T2) (t12 : Int) (t13 : Int) (t1 : T5) : Option (zhj ⊕ zpf) :=
 bif ltI t13 t12 then
 (idxI t11 t13).bind fun x =>
 (zub x).bind fun r =>
 bif !r then
 some (.inl (W64 (n + 1), t11, t12, W64 (t13 + 1), t1))
 else
 some (.inl (n, t11, t12, W64 (t13 + 1), t1))
 else
 some (.inr (n, t1))
def z4p (s : zhj) : Option (zhj ⊕ zpf) := zhx s.1 s.2.1 s.2.2.1 s.2.2.2.1 s.2.2.2.2
theorem zyh : SoundD Try.prog (.loop (subC (bodyC Try.f15) [1, 1, 0, 1, 0, 0])) (loopD zat.xe zbe (loopC z4p)) :=
 z0v (S := zat.xe) (X := zbe) zne (h := .no) (z0p [] (by kernel_rfl) trivial) (z0d zat) zx0 z4p (fun s => by kernel_rfl)
def zba : Shp := ⟨53, 0, [(1, .pt 0 r15 []), (3, .d (.int .i64)), (7, .pt 1 r13 []), (24, .d c18), (25, .d (.int .i64)), (26, .d (.int .i64))], [.var 33 (.d c17), .var 49 (.d c14)]⟩
def z2t : XS := .one (.exit 4) zba.xe
theorem zh2 : z2t.OK := XS.one_ok (z0d zba)
def z2s : Shp := ⟨53, 0, [(1, .pt 0 r15 []), (3, .d (.int .i64)), (7, .pt 1 r13 []), (24, .d c18), (25, .d (.int .i64)), (26, .d (.int .i64)), (31, .d c10), (32, .d (.int .i64)), (33, .d (.int .i64))], [.var 33 (.d c17), .var 49 (.d c14)]⟩
abbrev z6f := Int × (List T4) × Int × Int × (List T3) × Int × Int × T5 × T4
abbrev zbt := (Int × (List T4) × Int × Int × T5 × T4)
def z6l (n : Int) (t24 : List T4) (t25 : Int) (t26 : Int) (t31 : List T3) (t32 : Int) (t33 : Int) (t1 : T5) (o : T4) : Option (z6f ⊕ zbt) :=
 bif ltI t33 t32 then
 (idxI t31 t33).bind fun x =>
 (zsj x).bind fun r =>
 bif !r then
 some (.inl (W64 (n + 1), t24, t25, t26, t31, t32, W64 (t33 + 1), t1, o))
 else
 some (.inl (n, t24, t25, t26, t31, t32, W64 (t33 + 1), t1, o))
 else
 some (.inr (n, t24, t25, t26, t1, o))
def z1i (s : z6f) : Option (z6f ⊕ zbt) := z6l s.1 s.2.1 s.2.2.1 s.2.2.2.1 s.2.2.2.2.1 s.2.2.2.2.2.1 s.2.2.2.2.2.2.1 s.2.2.2.2.2.2.2.1 s.2.2.2.2.2.2.2.2
theorem zhr : SoundD Try.prog (.loop (subC (bodyC Try.f15) [1, 1, 1, 0, 1, 0, 0, 1, 1, 0, 0, 1, 0, 1, 0, 0])) (loopD z2s.xe z2t (loopC z1i)) :=
 z0v (S := z2s.xe) (X := z2t) zne (h := .no) (z0p [] (by kernel_rfl) trivial) (z0d z2s) zh2 z1i (fun s => by kernel_rfl)
def zkl : Shp := ⟨53, 0, [(3, .d (.int .i64))], []⟩
def z9q : XS := .one (.exit 2) zkl.xe
theorem zum : z9q.OK := XS.one_ok (z0d zkl)
def z9i : Shp := ⟨53, 0, [(1, .pt 0 r15 []), (3, .d (.int .i64)), (24, .d c18), (25, .d (.int .i64)), (26, .d (.int .i64))], [.var 33 (.d c17)]⟩
abbrev zfu := Int × (List T4) × Int × Int × T5
abbrev zmo := (Int)
def zfv (n : Int) (t24 : List T4) (t25 : Int) (t26 : Int) (t1 : T5) : Option (zfu ⊕ zmo) :=
 bif ltI t26 t25 then
 (idxI t24 t26).bind fun x =>
 z0s (List.length x.2.2.2.2.2) (
 (loopC z1i (n, t24, t25, t26, x.2.2.2.2.2, (List.length x.2.2.2.2.2 : Nat), 0, t1, x)).bind fun o =>
 (zma o.2.2.2.2.1 o.2.2.2.2.2 o.2.2.2.2.1.1).bind fun r =>
 bif !r then
 some (.inl (W64 (o.1 + 1), o.2.1, o.2.2.1, W64 (o.2.2.2.1 + 1), o.2.2.2.2.1))
 else
 some (.inl (o.1, o.2.1, o.2.2.1, W64 (o.2.2.2.1 + 1), o.2.2.2.2.1)))
 else
 some (.inr n)
def z4x (s : zfu) : Option (zfu ⊕ zmo) := zfv s.1 s.2.1 s.2.2.1 s.2.2.2.1 s.2.2.2.2
theorem zvi : SoundD Try.prog (.loop (subC (bodyC Try.f15) [1, 1, 1, 0, 1, 0, 0])) (loopD z9i.xe z9q (loopC z4x)) :=
 z0v (S := z9i.xe) (X := z9q) zne (h := (.two .no (.two .no (.two (.two .no (.two (.two .no (.over (loopD z2s.xe z2t (loopC z1i)))) .no)) .no)))) (z0p [.den (.loop (subC (bodyC Try.f15) [1, 1, 1, 0, 1, 0, 0, 1, 1, 0, 0, 1, 0, 1, 0, 0])) (loopD z2s.xe z2t (loopC z1i))] (by kernel_rfl) ⟨zhr, trivial⟩) (z0d z9i) zum z4x (fun s => by kernel_rfl)
def z15p : Shp := ⟨1, 0, [(0, .d (.int .i64))], []⟩
def z1cu : XS := .one .ret z15p.xe
theorem z1ip : z1cu.OK := XS.one_ok (z0d z15p)
def zwu (t0 : T5) : Option ((Int)) :=
 z0s (List.length t0.2.2.1) (
 (loopC z4p (0, t0.2.2.1, (List.length t0.2.2.1 : Nat), 0, t0)).bind fun o =>
 z0s (List.length o.2.2.1) (
 (loopC z4x (o.1, o.2.2.1, (List.length o.2.2.1 : Nat), 0, o.2)).bind fun o2 =>
 some o2))
def z1c5 : Sig := ⟨15, [.d c17], [], 0, z1cu⟩
def z18y (x : T5) : Option ((Int)) := zwu x
theorem z1m2 : FnOK Try.prog z1c5 z18y :=
 fn_ok zne (h := (.two .no (.two .no (.two (.two .no (.over (loopD zat.xe zbe (loopC z4p)))) (.two (.two .no (.over (loopD z9i.xe z9q (loopC z4x)))) .no))))) Try.func15 (z0p [.den (.loop (subC (bodyC Try.f15) [1, 1, 0, 1, 0, 0])) (loopD zat.xe zbe (loopC z4p)), .den (.loop (subC (bodyC Try.f15) [1, 1, 1, 0, 1, 0, 0])) (loopD z9i.xe z9q (loopC z4x))] (by kernel_rfl) ⟨zyh, zvi, trivial⟩) (by kernel_rfl) z1ip (fun x => by kernel_rfl)
def z1mn : Env := ⟨[(entQ zvh ztt), (entQ zs7 zps), (entQ z1c5 z18y)], [], []⟩
theorem z1ht : EnvsOK Try.prog z1mn := ⟨z0o (z0q z15h) (z0o (z0q zz0) (z0o (z0q z1m2) (z0x _))), z0t _, z0u _⟩
def z10t : Shp := ⟨1, 0, [(0, .d .bool)], []⟩
def z19a : XS := .one .ret z10t.xe
theorem z1gq : z19a.OK := XS.one_ok (z0d z10t)
def zdr  : Option ((Bool)) :=
 (zfd (([((1, 1), List.replicate 8 (0 : Int), 1, (0, 0), (0, 0), ([97] : List Int), [], [], 0, [], 0), ((1, 2), (List.replicate 8 (0 : Int)).set 0 1, 6, (1, 1), (0, 0), [], ([(1, 1)] : List T0), [], 0, [], 0)] : List T1))).bind fun r =>
 (zgn r ((List.replicate 8 (0 : Int)).set 0 1)).bind fun r2 =>
 (zgn r ((List.replicate 8 (0 : Int)).set 0 2)).bind fun r3 =>
 z0s (List.length r2.2.2.1) (
 bif eqI (List.length r2.2.2.1 : Nat) 1 then
 z0s (List.length r2.2.1) (
 bif eqI (List.length r2.2.1 : Nat) 1 then
 z0s (List.length r3.2.2.1) (
 z0s (List.length r3.2.1) (
 bif eqI (W64 ((List.length r3.2.2.1 : Nat) + (List.length r3.2.1 : Nat))) 0 then
 bif eqU c1 r3.1 r.1 then
 (zwu r).bind fun r4 =>
 some (eqI r4 1)
 else
 some false
 else
 some false))
 else
 some false)
 else
 some false)
def z19m : Sig := ⟨8, [], [], 0, z19a⟩
def z14a (x : Unit) : Option ((Bool)) := zdr 
theorem z1jh : FnOK Try.prog z19m z14a :=
 fn_ok z1ht (h := .no) Try.func8 (z0p [] (by kernel_rfl) trivial) (by kernel_rfl) z1gq (fun x => by kernel_rfl)
def z1mq : Env := ⟨[], [], []⟩
theorem z11r : EnvsOK Try.prog z1mq := ⟨z0x _, z0t _, z0u _⟩
def zfs : Shp := ⟨41, 0, [(2, .pt 0 (.one (.arr 8 .leaf)) []), (3, .pt 1 (.one (.arr 8 .leaf)) []), (5, .d .bool), (6, .d .bool), (7, .d (.int .i64))], [.var 25 (.d c1), .var 25 (.d c1)]⟩
def zc3 : XS := .one .normal zfs.xe
theorem zp2 : zc3.OK := XS.one_ok (z0d zfs)
def zlc : Shp := ⟨41, 0, [(5, .d .bool), (6, .d .bool)], []⟩
def zab : XS := .one (.exit 0) zlc.xe
theorem zvl : zab.OK := XS.one_ok (z0d zlc)
def za9 : Shp := ⟨41, 0, [(2, .pt 0 (.one (.arr 8 .leaf)) []), (3, .pt 1 (.one (.arr 8 .leaf)) []), (5, .d .bool), (6, .d .bool), (7, .d (.int .i64))], [.var 25 (.d c1), .var 25 (.d c1)]⟩
abbrev zge := Bool × Bool × Int × (List Int) × (List Int)
abbrev znm := (Bool × Bool)
def zgi (less : Bool) (more : Bool) (i : Int) (a : List Int) (b : List Int) : Option (zge ⊕ znm) :=
 bif ltI i 8 then
 (show Option ((Bool × Bool × Int × (List Int) × (List Int))) from
 bif less then
 some (true, more, i, a, b)
 else
 bif inI i 8 then
 (a[i.toNat]?).bind fun x =>
 bif inI i 8 then
 (b[i.toNat]?).bind fun x2 =>
 some (ltI x x2, more, i, a, b)
 else none
 else none).bind fun j =>
 bif j.2.1 then
 some (.inl (j.1, true, W64 (j.2.2.1 + 1), j.2.2.2.1, j.2.2.2.2))
 else
 bif inI j.2.2.1 8 then
 (j.2.2.2.1[j.2.2.1.toNat]?).bind fun x3 =>
 bif inI j.2.2.1 8 then
 (j.2.2.2.2[j.2.2.1.toNat]?).bind fun x4 =>
 some (.inl (j.1, ltI x4 x3, W64 (j.2.2.1 + 1), j.2.2.2.1, j.2.2.2.2))
 else none
 else none
 else
 some (.inr (less, more))
def z5h (s : zge) : Option (zge ⊕ znm) := zgi s.1 s.2.1 s.2.2.1 s.2.2.2.1 s.2.2.2.2
theorem zxl : SoundD Try.prog (.loop (subC (bodyC Try.f52) [1, 1, 0, 1, 0, 0])) (loopD za9.xe zab (loopC z5h)) :=
 z0v (S := za9.xe) (X := zab) z11r (h := (.two .no (.two (.join (fun _ => zc3) .no .no) .no))) (z0p [.xs (fun _ => zc3)] (by kernel_rfl) ⟨(z2o zp2), trivial⟩) (z0d za9) zvl z5h (fun s => by kernel_rfl)
def zlr : Shp := ⟨41, 0, [(5, .d .bool), (6, .d .bool), (32, .d .bool)], []⟩
def zhy : XS := .one .normal zlr.xe
theorem zwy : zhy.OK := XS.one_ok (z0d zlr)
def z11j : Shp := ⟨1, 0, [(0, .d (.int .i64))], []⟩
def z1a4 : XS := .one .ret z11j.xe
theorem z1fv : z1a4.OK := XS.one_ok (z0d z11j)
def z13k (a : List Int) (b : List Int) : Option ((Int)) :=
 (loopC z5h (false, false, 0, a, b)).bind fun o =>
 (show Option ((Bool × Bool × Bool)) from
 bif o.1 then
 some (o.1, o.2, o.2)
 else
 some (o.1, o.2, false)).bind fun j =>
 bif j.2.2 then
 some 2
 else
 bif j.1 then
 some (-1)
 else
 bif j.2.1 then
 some 1
 else
 some 0
def z1a5 : Sig := ⟨52, [.d c1, .d c1], [], 0, z1a4⟩
def z15w (x : (List Int) × (List Int)) : Option ((Int)) := z13k x.1 x.2
theorem z1jj : FnOK Try.prog z1a5 z15w :=
 fn_ok z11r (h := (.two .no (.two .no (.two (.two .no (.over (loopD za9.xe zab (loopC z5h)))) (.two (.join (fun _ => zhy) .no .no) .no))))) Try.func52 (z0p [.den (.loop (subC (bodyC Try.f52) [1, 1, 0, 1, 0, 0])) (loopD za9.xe zab (loopC z5h)), .xs (fun _ => zhy)] (by kernel_rfl) ⟨zxl, (z2o zwy), trivial⟩) (by kernel_rfl) z1fv (fun x => by kernel_rfl)
def z1ph : Env := ⟨[(entQ z1a5 z15w)], [], []⟩
theorem z1mi : EnvsOK Try.prog z1ph := ⟨z0o (z0q z1jj) (z0x _), z0t _, z0u _⟩
def z19u : Shp := ⟨1, 0, [(0, .d .bool)], []⟩
def z1ew : XS := .one .ret z19u.xe
theorem z1k8 : z1ew.OK := XS.one_ok (z0d z19u)
def z12c (a : List Int) (b : List Int) : Option ((Bool)) :=
 (z13k a b).bind fun r =>
 some (leI r 0)
def z1ee : Sig := ⟨27, [.d c1, .d c1], [], 0, z1ew⟩
def z1co (x : (List Int) × (List Int)) : Option ((Bool)) := z12c x.1 x.2
theorem z1nq : FnOK Try.prog z1ee z1co :=
 fn_ok z1mi (h := .no) Try.func27 (z0p [] (by kernel_rfl) trivial) (by kernel_rfl) z1k8 (fun x => by kernel_rfl)
def z1mu : Env := ⟨[], [], []⟩
theorem z13x : EnvsOK Try.prog z1mu := ⟨z0x _, z0t _, z0u _⟩
def zm7 : Shp := ⟨37, 0, [], []⟩
def zmy : Shp := ⟨37, 0, [(2, .d .bool)], []⟩
def zbb : XS := .or (.exit 0) zm7.xe (.one .ret zmy.xe)
theorem zwz : zbb.OK := XS.or_ok (z0d zm7) (XS.one_ok (z0d zmy))
def zbf : Shp := ⟨37, 0, [(8, .d c3), (9, .d (.int .i64)), (10, .d (.int .i64))], []⟩
abbrev zhg := (List T1) × Int × Int
abbrev zpd := (Unit) ⊕ (Bool)
def zi5 (t8 : List T1) (t9 : Int) (t10 : Int) : Option (zhg ⊕ zpd) :=
 bif ltI t10 t9 then
 (idxI t8 t10).bind fun x =>
 z0s (List.length x.2.2.2.2.2.1) (
 bif ltI 30 (List.length x.2.2.2.2.2.1 : Nat) then
 some (.inr (.inr false))
 else
 z0s (List.length x.2.2.2.2.2.2.2.2.2.1) (
 bif ltI 250 (List.length x.2.2.2.2.2.2.2.2.2.1 : Nat) then
 some (.inr (.inr false))
 else
 z0s (List.length x.2.2.2.2.2.2.1) (
 bif ltI 10 (List.length x.2.2.2.2.2.2.1 : Nat) then
 some (.inr (.inr false))
 else
 z0s (List.length x.2.2.2.2.2.2.2.1) (
 bif ltI 10 (List.length x.2.2.2.2.2.2.2.1 : Nat) then
 some (.inr (.inr false))
 else
 some (.inl (t8, t9, W64 (t10 + 1)))))))
 else
 some (.inr (.inl ()))
def z5q (s : zhg) : Option (zhg ⊕ zpd) := zi5 s.1 s.2.1 s.2.2
theorem zyt : SoundD Try.prog (.loop (subC (bodyC Try.f9) [1, 1, 0, 1, 0, 0])) (loopD zbf.xe zbb (loopC z5q)) :=
 z0v (S := zbf.xe) (X := zbb) z13x (h := .no) (z0p [] (by kernel_rfl) trivial) (z0d zbf) zwz z5q (fun s => by kernel_rfl)
def z14k : Shp := ⟨1, 0, [(0, .d .bool)], []⟩
def z1cv : XS := .one .ret z14k.xe
theorem z1hk : z1cv.OK := XS.one_ok (z0d z14k)
def zrn (l : List T1) : Option ((Bool)) :=
 z0s (List.length l) (
 bif ltI 25 (List.length l : Nat) then
 some false
 else
 z0s (List.length l) (
 (loopC z5q (l, (List.length l : Nat), 0)).bind fun o =>
 Sum.elim (fun y =>
 some true) (fun y2 =>
 some y2) o))
def z1by : Sig := ⟨9, [.d c3], [], 0, z1cv⟩
def z19l (x : (List T1)) : Option ((Bool)) := zrn x
theorem z1m9 : FnOK Try.prog z1by z19l :=
 fn_ok z13x (h := (.two .no (.two .no (.two (.two .no (.over (loopD zbf.xe zbb (loopC z5q)))) .no)))) Try.func9 (z0p [.den (.loop (subC (bodyC Try.f9) [1, 1, 0, 1, 0, 0])) (loopD zbf.xe zbb (loopC z5q))] (by kernel_rfl) ⟨zyt, trivial⟩) (by kernel_rfl) z1hk (fun x => by kernel_rfl)
def z1pw : Env := ⟨[(entQ zoa zmi)], [], []⟩
theorem z1mc : EnvsOK Try.prog z1pw := ⟨z0o (z0q zs0) (z0x _), z0t _, z0u _⟩
def z19d : Shp := ⟨1, 0, [(0, .d .bool)], []⟩
def z1fh : XS := .one .ret z19d.xe
theorem z1jt : z1fh.OK := XS.one_ok (z0d z19d)
def zmp (v : List Int) (id : T0) : Option ((Bool)) :=
 bif ltI 0 id.2 then
 (zls v id.1).bind fun r =>
 some (leI id.2 r)
 else
 some false
def zua : Sig := ⟨58, [.d c1, .d c0], [], 0, z1fh⟩
def zrc (x : (List Int) × T0) : Option ((Bool)) := zmp x.1 x.2
theorem zz4 : FnOK Try.prog zua zrc :=
 fn_ok z1mc (h := .no) Try.func58 (z0p [] (by kernel_rfl) trivial) (by kernel_rfl) z1jt (fun x => by kernel_rfl)
def z1p4 : Env := ⟨[], [], []⟩
theorem z1k7 : EnvsOK Try.prog z1p4 := ⟨z0x _, z0t _, z0u _⟩
def z15g : Shp := ⟨1, 0, [(0, .d .bool)], []⟩
def z1as : XS := .one .ret z15g.xe
theorem z1i4 : z1as.OK := XS.one_ok (z0d z15g)
def zjr (x : T0) : Option ((Bool)) :=
 bif eqI x.1 0 then
 some (eqI x.2 0)
 else
 some false
def zy9 : Sig := ⟨80, [.d c0], [], 0, z1as⟩
def zvk (x : T0) : Option ((Bool)) := zjr x
theorem z1a6 : FnOK Try.prog zy9 zvk :=
 fn_ok z1k7 (h := .no) Try.func80 (z0p [] (by kernel_rfl) trivial) (by kernel_rfl) z1i4 (fun x => by kernel_rfl)
def z1pb : Env := ⟨[(entQ zua zrc), (entQ zbq zaq)], [], []⟩
theorem z15l : EnvsOK Try.prog z1pb := ⟨z0o (z0q zz4) (z0o (z0q zc5) (z0x _)), z0t _, z0u _⟩
def zon : Shp := ⟨36, 0, [], []⟩
def zom : Shp := ⟨36, 0, [(4, .d .bool)], []⟩
def zch : XS := .or (.exit 0) zon.xe (.one .ret zom.xe)
theorem z10h : zch.OK := XS.or_ok (z0d zon) (XS.one_ok (z0d zom))
def zca : Shp := ⟨36, 0, [(0, .d c4), (3, .pt 0 (.one (.arr 8 .leaf)) []), (5, .d (.int .i64))], [.var 25 (.d c1)]⟩
abbrev zjo := (List T0) × Int × (List Int)
abbrev zs6 := (Unit) ⊕ (Bool)
def zk2 (l : List T0) (i : Int) (t3 : List Int) : Option (zjo ⊕ zs6) :=
 z0s (List.length l) (
 bif ltI i (List.length l : Nat) then
 (idxI l i).bind fun x =>
 (zmp t3 x).bind fun r =>
 bif !r then
 some (.inr (.inr false))
 else
 bif ltI 0 i then
 (idxI l (W64 (i - 1))).bind fun x2 =>
 (idxI l i).bind fun x3 =>
 (zbg x2 x3).bind fun r2 =>
 bif !r2 then
 some (.inr (.inr false))
 else
 some (.inl (l, W64 (i + 1), t3))
 else
 some (.inl (l, W64 (i + 1), t3))
 else
 some (.inr (.inl ())))
def z7j (s : zjo) : Option (zjo ⊕ zs6) := zk2 s.1 s.2.1 s.2.2
theorem z12w : SoundD Try.prog (.loop (subC (bodyC Try.f81) [1, 0, 1, 0, 0])) (loopD zca.xe zch (loopC z7j)) :=
 z0v (S := zca.xe) (X := zch) z15l (h := .no) (z0p [] (by kernel_rfl) trivial) (z0d zca) z10h z7j (fun s => by kernel_rfl)
def z14f : Shp := ⟨1, 0, [(0, .d .bool)], []⟩
def z1cd : XS := .one .ret z14f.xe
theorem z1it : z1cd.OK := XS.one_ok (z0d z14f)
def znc (l : List T0) (t1 : List Int) : Option ((Bool)) :=
 (loopC z7j (l, 0, t1)).bind fun o =>
 Sum.elim (fun y =>
 some true) (fun y2 =>
 some y2) o
def z1bk : Sig := ⟨81, [.d c4, .d c1], [], 0, z1cd⟩
def z19v (x : (List T0) × (List Int)) : Option ((Bool)) := znc x.1 x.2
theorem z1lw : FnOK Try.prog z1bk z19v :=
 fn_ok z15l (h := (.two .no (.two (.two .no (.over (loopD zca.xe zch (loopC z7j)))) .no))) Try.func81 (z0p [.den (.loop (subC (bodyC Try.f81) [1, 0, 1, 0, 0])) (loopD zca.xe zch (loopC z7j))] (by kernel_rfl) ⟨z12w, trivial⟩) (by kernel_rfl) z1it (fun x => by kernel_rfl)
def z1oh : Env := ⟨[], [], []⟩
theorem z14b : EnvsOK Try.prog z1oh := ⟨z0x _, z0t _, z0u _⟩
def zfh : Shp := ⟨72, 0, [(0, .d .str), (3, .d (.int .i64)), (4, .d (.int .u8)), (5, .d .bool), (6, .d .bool), (7, .d .bool)], []⟩
def zbz : XS := .one .normal zfh.xe
theorem zo5 : zbz.OK := XS.one_ok (z0d zfh)
def zlx : Shp := ⟨72, 0, [], []⟩
def zmc : Shp := ⟨72, 0, [(2, .d .bool)], []⟩
def zb8 : XS := .or (.exit 0) zlx.xe (.one .ret zmc.xe)
theorem zxi : zb8.OK := XS.or_ok (z0d zlx) (XS.one_ok (z0d zmc))
def zav : Shp := ⟨72, 0, [(0, .d .str), (3, .d (.int .i64))], []⟩
abbrev zhk := (List Int) × Int
abbrev zpb := (Unit) ⊕ (Bool)
def zi0 (t0 : List Int) (i : Int) : Option (zhk ⊕ zpb) :=
 z0s (List.length t0) (
 bif ltI i (List.length t0 : Nat) then
 (idxI t0 i).bind fun x =>
 (show Option (((List Int) × Int × Int × Bool × Bool × Bool)) from
 bif leI 97 x then
 bif leI 65 x then
 bif leI 48 x then
 some (t0, i, x, leI x 122, leI x 90, leI x 57)
 else
 some (t0, i, x, leI x 122, leI x 90, false)
 else
 bif leI 48 x then
 some (t0, i, x, leI x 122, false, leI x 57)
 else
 some (t0, i, x, leI x 122, false, false)
 else
 bif leI 65 x then
 bif leI 48 x then
 some (t0, i, x, false, leI x 90, leI x 57)
 else
 some (t0, i, x, false, leI x 90, false)
 else
 bif leI 48 x then
 some (t0, i, x, false, false, leI x 57)
 else
 some (t0, i, x, false, false, false)).bind fun j =>
 bif !j.2.2.2.1 then
 bif !j.2.2.2.2.1 then
 bif !j.2.2.2.2.2 then
 bif neI j.2.2.1 46 then
 bif neI j.2.2.1 95 then
 bif neI j.2.2.1 45 then
 some (.inr (.inr false))
 else
 some (.inl (j.1, W64 (j.2.1 + 1)))
 else
 some (.inl (j.1, W64 (j.2.1 + 1)))
 else
 some (.inl (j.1, W64 (j.2.1 + 1)))
 else
 some (.inl (j.1, W64 (j.2.1 + 1)))
 else
 some (.inl (j.1, W64 (j.2.1 + 1)))
 else
 some (.inl (j.1, W64 (j.2.1 + 1)))
 else
 some (.inr (.inl ())))
def z5t (s : zhk) : Option (zhk ⊕ zpb) := zi0 s.1 s.2
theorem zxz : SoundD Try.prog (.loop (subC (bodyC Try.f82) [1, 1, 0, 1, 0, 0])) (loopD zav.xe zb8 (loopC z5t)) :=
 z0v (S := zav.xe) (X := zb8) z14b (h := (.two .no (.two (.two .no (.join (fun _ => zbz) .no .no)) .no))) (z0p [.xs (fun _ => zbz)] (by kernel_rfl) ⟨(z2o zo5), trivial⟩) (z0d zav) zxi z5t (fun s => by kernel_rfl)
def z13o : Shp := ⟨1, 0, [(0, .d .bool)], []⟩
def z1c7 : XS := .one .ret z13o.xe
theorem z1hi : z1c7.OK := XS.one_ok (z0d z13o)
def zri (t0 : List Int) : Option ((Bool)) :=
 bif eqS t0 ([] : List Int) then
 some false
 else
 z0s (List.length t0) (
 bif ltI 12 (List.length t0 : Nat) then
 some false
 else
 bif eqS t0 ([46] : List Int) then
 some false
 else
 bif eqS t0 ([46, 46] : List Int) then
 some false
 else
 (loopC z5t (t0, 0)).bind fun o =>
 Sum.elim (fun y =>
 some true) (fun y2 =>
 some y2) o)
def z1da : Sig := ⟨82, [.d .str], [], 0, z1c7⟩
def z19i (x : (List Int)) : Option ((Bool)) := zri x
theorem z1mj : FnOK Try.prog z1da z19i :=
 fn_ok z14b (h := (.two .no (.two .no (.two (.two .no (.over (loopD zav.xe zb8 (loopC z5t)))) .no)))) Try.func82 (z0p [.den (.loop (subC (bodyC Try.f82) [1, 1, 0, 1, 0, 0])) (loopD zav.xe zb8 (loopC z5t))] (by kernel_rfl) ⟨zxz, trivial⟩) (by kernel_rfl) z1hi (fun x => by kernel_rfl)
def z1nt : Env := ⟨[(entQ zy9 zvk)], [], []⟩
theorem z1jz : EnvsOK Try.prog z1nt := ⟨z0o (z0q z1a6) (z0x _), z0t _, z0u _⟩
def z13z : Shp := ⟨1, 0, [(0, .d .bool)], []⟩
def z1an : XS := .one .ret z13z.xe
theorem z1hm : z1an.OK := XS.one_ok (z0d z13z)
def zbj (t0 : T1) (obj : Bool) (dir : Bool) (gone : Bool) (base : Bool) (off : Bool) (data : Bool) (ward : Bool) : Option ((Bool)) :=
 bif obj then
 bif dir then
 bif gone then
 bif base then
 bif off then
 bif data then
 bif ward then
 some true
 else
 some (eqI t0.2.2.2.2.2.2.2.2.2.2 0)
 else
 bif eqS t0.2.2.2.2.2.2.2.2.2.1 ([] : List Int) then
 bif ward then
 some true
 else
 some (eqI t0.2.2.2.2.2.2.2.2.2.2 0)
 else
 some false
 else
 bif eqI t0.2.2.2.2.2.2.2.2.1 0 then
 bif data then
 bif ward then
 some true
 else
 some (eqI t0.2.2.2.2.2.2.2.2.2.2 0)
 else
 bif eqS t0.2.2.2.2.2.2.2.2.2.1 ([] : List Int) then
 bif ward then
 some true
 else
 some (eqI t0.2.2.2.2.2.2.2.2.2.2 0)
 else
 some false
 else
 some false
 else
 z0s (List.length t0.2.2.2.2.2.2.2.1) (
 bif eqI (List.length t0.2.2.2.2.2.2.2.1 : Nat) 0 then
 bif off then
 bif data then
 bif ward then
 some true
 else
 some (eqI t0.2.2.2.2.2.2.2.2.2.2 0)
 else
 bif eqS t0.2.2.2.2.2.2.2.2.2.1 ([] : List Int) then
 bif ward then
 some true
 else
 some (eqI t0.2.2.2.2.2.2.2.2.2.2 0)
 else
 some false
 else
 bif eqI t0.2.2.2.2.2.2.2.2.1 0 then
 bif data then
 bif ward then
 some true
 else
 some (eqI t0.2.2.2.2.2.2.2.2.2.2 0)
 else
 bif eqS t0.2.2.2.2.2.2.2.2.2.1 ([] : List Int) then
 bif ward then
 some true
 else
 some (eqI t0.2.2.2.2.2.2.2.2.2.2 0)
 else
 some false
 else
 some false
 else
 some false)
 else
 z0s (List.length t0.2.2.2.2.2.2.1) (
 bif eqI (List.length t0.2.2.2.2.2.2.1 : Nat) 0 then
 bif base then
 bif off then
 bif data then
 bif ward then
 some true
 else
 some (eqI t0.2.2.2.2.2.2.2.2.2.2 0)
 else
 bif eqS t0.2.2.2.2.2.2.2.2.2.1 ([] : List Int) then
 bif ward then
 some true
 else
 some (eqI t0.2.2.2.2.2.2.2.2.2.2 0)
 else
 some false
 else
 bif eqI t0.2.2.2.2.2.2.2.2.1 0 then
 bif data then
 bif ward then
 some true
 else
 some (eqI t0.2.2.2.2.2.2.2.2.2.2 0)
 else
 bif eqS t0.2.2.2.2.2.2.2.2.2.1 ([] : List Int) then
 bif ward then
 some true
 else
 some (eqI t0.2.2.2.2.2.2.2.2.2.2 0)
 else
 some false
 else
 some false
 else
 z0s (List.length t0.2.2.2.2.2.2.2.1) (
 bif eqI (List.length t0.2.2.2.2.2.2.2.1 : Nat) 0 then
 bif off then
 bif data then
 bif ward then
 some true
 else
 some (eqI t0.2.2.2.2.2.2.2.2.2.2 0)
 else
 bif eqS t0.2.2.2.2.2.2.2.2.2.1 ([] : List Int) then
 bif ward then
 some true
 else
 some (eqI t0.2.2.2.2.2.2.2.2.2.2 0)
 else
 some false
 else
 bif eqI t0.2.2.2.2.2.2.2.2.1 0 then
 bif data then
 bif ward then
 some true
 else
 some (eqI t0.2.2.2.2.2.2.2.2.2.2 0)
 else
 bif eqS t0.2.2.2.2.2.2.2.2.2.1 ([] : List Int) then
 bif ward then
 some true
 else
 some (eqI t0.2.2.2.2.2.2.2.2.2.2 0)
 else
 some false
 else
 some false
 else
 some false)
 else
 some false)
 else
 (zjr t0.2.2.2.2.1).bind fun r =>
 bif r then
 bif eqS t0.2.2.2.2.2.1 ([] : List Int) then
 bif gone then
 bif base then
 bif off then
 bif data then
 bif ward then
 some true
 else
 some (eqI t0.2.2.2.2.2.2.2.2.2.2 0)
 else
 bif eqS t0.2.2.2.2.2.2.2.2.2.1 ([] : List Int) then
 bif ward then
 some true
 else
 some (eqI t0.2.2.2.2.2.2.2.2.2.2 0)
 else
 some false
 else
 bif eqI t0.2.2.2.2.2.2.2.2.1 0 then
 bif data then
 bif ward then
 some true
 else
 some (eqI t0.2.2.2.2.2.2.2.2.2.2 0)
 else
 bif eqS t0.2.2.2.2.2.2.2.2.2.1 ([] : List Int) then
 bif ward then
 some true
 else
 some (eqI t0.2.2.2.2.2.2.2.2.2.2 0)
 else
 some false
 else
 some false
 else
 z0s (List.length t0.2.2.2.2.2.2.2.1) (
 bif eqI (List.length t0.2.2.2.2.2.2.2.1 : Nat) 0 then
 bif off then
 bif data then
 bif ward then
 some true
 else
 some (eqI t0.2.2.2.2.2.2.2.2.2.2 0)
 else
 bif eqS t0.2.2.2.2.2.2.2.2.2.1 ([] : List Int) then
 bif ward then
 some true
 else
 some (eqI t0.2.2.2.2.2.2.2.2.2.2 0)
 else
 some false
 else
 bif eqI t0.2.2.2.2.2.2.2.2.1 0 then
 bif data then
 bif ward then
 some true
 else
 some (eqI t0.2.2.2.2.2.2.2.2.2.2 0)
 else
 bif eqS t0.2.2.2.2.2.2.2.2.2.1 ([] : List Int) then
 bif ward then
 some true
 else
 some (eqI t0.2.2.2.2.2.2.2.2.2.2 0)
 else
 some false
 else
 some false
 else
 some false)
 else
 z0s (List.length t0.2.2.2.2.2.2.1) (
 bif eqI (List.length t0.2.2.2.2.2.2.1 : Nat) 0 then
 bif base then
 bif off then
 bif data then
 bif ward then
 some true
 else
 some (eqI t0.2.2.2.2.2.2.2.2.2.2 0)
 else
 bif eqS t0.2.2.2.2.2.2.2.2.2.1 ([] : List Int) then
 bif ward then
 some true
 else
 some (eqI t0.2.2.2.2.2.2.2.2.2.2 0)
 else
 some false
 else
 bif eqI t0.2.2.2.2.2.2.2.2.1 0 then
 bif data then
 bif ward then
 some true
 else
 some (eqI t0.2.2.2.2.2.2.2.2.2.2 0)
 else
 bif eqS t0.2.2.2.2.2.2.2.2.2.1 ([] : List Int) then
 bif ward then
 some true
 else
 some (eqI t0.2.2.2.2.2.2.2.2.2.2 0)
 else
 some false
 else
 some false
 else
 z0s (List.length t0.2.2.2.2.2.2.2.1) (
 bif eqI (List.length t0.2.2.2.2.2.2.2.1 : Nat) 0 then
 bif off then
 bif data then
 bif ward then
 some true
 else
 some (eqI t0.2.2.2.2.2.2.2.2.2.2 0)
 else
 bif eqS t0.2.2.2.2.2.2.2.2.2.1 ([] : List Int) then
 bif ward then
 some true
 else
 some (eqI t0.2.2.2.2.2.2.2.2.2.2 0)
 else
 some false
 else
 bif eqI t0.2.2.2.2.2.2.2.2.1 0 then
 bif data then
 bif ward then
 some true
 else
 some (eqI t0.2.2.2.2.2.2.2.2.2.2 0)
 else
 bif eqS t0.2.2.2.2.2.2.2.2.2.1 ([] : List Int) then
 bif ward then
 some true
 else
 some (eqI t0.2.2.2.2.2.2.2.2.2.2 0)
 else
 some false
 else
 some false
 else
 some false)
 else
 some false)
 else
 some false
 else
 some false
 else
 (zjr t0.2.2.2.1).bind fun r2 =>
 bif r2 then
 bif dir then
 bif gone then
 bif base then
 bif off then
 bif data then
 bif ward then
 some true
 else
 some (eqI t0.2.2.2.2.2.2.2.2.2.2 0)
 else
 bif eqS t0.2.2.2.2.2.2.2.2.2.1 ([] : List Int) then
 bif ward then
 some true
 else
 some (eqI t0.2.2.2.2.2.2.2.2.2.2 0)
 else
 some false
 else
 bif eqI t0.2.2.2.2.2.2.2.2.1 0 then
 bif data then
 bif ward then
 some true
 else
 some (eqI t0.2.2.2.2.2.2.2.2.2.2 0)
 else
 bif eqS t0.2.2.2.2.2.2.2.2.2.1 ([] : List Int) then
 bif ward then
 some true
 else
 some (eqI t0.2.2.2.2.2.2.2.2.2.2 0)
 else
 some false
 else
 some false
 else
 z0s (List.length t0.2.2.2.2.2.2.2.1) (
 bif eqI (List.length t0.2.2.2.2.2.2.2.1 : Nat) 0 then
 bif off then
 bif data then
 bif ward then
 some true
 else
 some (eqI t0.2.2.2.2.2.2.2.2.2.2 0)
 else
 bif eqS t0.2.2.2.2.2.2.2.2.2.1 ([] : List Int) then
 bif ward then
 some true
 else
 some (eqI t0.2.2.2.2.2.2.2.2.2.2 0)
 else
 some false
 else
 bif eqI t0.2.2.2.2.2.2.2.2.1 0 then
 bif data then
 bif ward then
 some true
 else
 some (eqI t0.2.2.2.2.2.2.2.2.2.2 0)
 else
 bif eqS t0.2.2.2.2.2.2.2.2.2.1 ([] : List Int) then
 bif ward then
 some true
 else
 some (eqI t0.2.2.2.2.2.2.2.2.2.2 0)
 else
 some false
 else
 some false
 else
 some false)
 else
 z0s (List.length t0.2.2.2.2.2.2.1) (
 bif eqI (List.length t0.2.2.2.2.2.2.1 : Nat) 0 then
 bif base then
 bif off then
 bif data then
 bif ward then
 some true
 else
 some (eqI t0.2.2.2.2.2.2.2.2.2.2 0)
 else
 bif eqS t0.2.2.2.2.2.2.2.2.2.1 ([] : List Int) then
 bif ward then
 some true
 else
 some (eqI t0.2.2.2.2.2.2.2.2.2.2 0)
 else
 some false
 else
 bif eqI t0.2.2.2.2.2.2.2.2.1 0 then
 bif data then
 bif ward then
 some true
 else
 some (eqI t0.2.2.2.2.2.2.2.2.2.2 0)
 else
 bif eqS t0.2.2.2.2.2.2.2.2.2.1 ([] : List Int) then
 bif ward then
 some true
 else
 some (eqI t0.2.2.2.2.2.2.2.2.2.2 0)
 else
 some false
 else
 some false
 else
 z0s (List.length t0.2.2.2.2.2.2.2.1) (
 bif eqI (List.length t0.2.2.2.2.2.2.2.1 : Nat) 0 then
 bif off then
 bif data then
 bif ward then
 some true
 else
 some (eqI t0.2.2.2.2.2.2.2.2.2.2 0)
 else
 bif eqS t0.2.2.2.2.2.2.2.2.2.1 ([] : List Int) then
 bif ward then
 some true
 else
 some (eqI t0.2.2.2.2.2.2.2.2.2.2 0)
 else
 some false
 else
 bif eqI t0.2.2.2.2.2.2.2.2.1 0 then
 bif data then
 bif ward then
 some true
 else
 some (eqI t0.2.2.2.2.2.2.2.2.2.2 0)
 else
 bif eqS t0.2.2.2.2.2.2.2.2.2.1 ([] : List Int) then
 bif ward then
 some true
 else
 some (eqI t0.2.2.2.2.2.2.2.2.2.2 0)
 else
 some false
 else
 some false
 else
 some false)
 else
 some false)
 else
 (zjr t0.2.2.2.2.1).bind fun r3 =>
 bif r3 then
 bif eqS t0.2.2.2.2.2.1 ([] : List Int) then
 bif gone then
 bif base then
 bif off then
 bif data then
 bif ward then
 some true
 else
 some (eqI t0.2.2.2.2.2.2.2.2.2.2 0)
 else
 bif eqS t0.2.2.2.2.2.2.2.2.2.1 ([] : List Int) then
 bif ward then
 some true
 else
 some (eqI t0.2.2.2.2.2.2.2.2.2.2 0)
 else
 some false
 else
 bif eqI t0.2.2.2.2.2.2.2.2.1 0 then
 bif data then
 bif ward then
 some true
 else
 some (eqI t0.2.2.2.2.2.2.2.2.2.2 0)
 else
 bif eqS t0.2.2.2.2.2.2.2.2.2.1 ([] : List Int) then
 bif ward then
 some true
 else
 some (eqI t0.2.2.2.2.2.2.2.2.2.2 0)
 else
 some false
 else
 some false
 else
 z0s (List.length t0.2.2.2.2.2.2.2.1) (
 bif eqI (List.length t0.2.2.2.2.2.2.2.1 : Nat) 0 then
 bif off then
 bif data then
 bif ward then
 some true
 else
 some (eqI t0.2.2.2.2.2.2.2.2.2.2 0)
 else
 bif eqS t0.2.2.2.2.2.2.2.2.2.1 ([] : List Int) then
 bif ward then
 some true
 else
 some (eqI t0.2.2.2.2.2.2.2.2.2.2 0)
 else
 some false
 else
 bif eqI t0.2.2.2.2.2.2.2.2.1 0 then
 bif data then
 bif ward then
 some true
 else
 some (eqI t0.2.2.2.2.2.2.2.2.2.2 0)
 else
 bif eqS t0.2.2.2.2.2.2.2.2.2.1 ([] : List Int) then
 bif ward then
 some true
 else
 some (eqI t0.2.2.2.2.2.2.2.2.2.2 0)
 else
 some false
 else
 some false
 else
 some false)
 else
 z0s (List.length t0.2.2.2.2.2.2.1) (
 bif eqI (List.length t0.2.2.2.2.2.2.1 : Nat) 0 then
 bif base then
 bif off then
 bif data then
 bif ward then
 some true
 else
 some (eqI t0.2.2.2.2.2.2.2.2.2.2 0)
 else
 bif eqS t0.2.2.2.2.2.2.2.2.2.1 ([] : List Int) then
 bif ward then
 some true
 else
 some (eqI t0.2.2.2.2.2.2.2.2.2.2 0)
 else
 some false
 else
 bif eqI t0.2.2.2.2.2.2.2.2.1 0 then
 bif data then
 bif ward then
 some true
 else
 some (eqI t0.2.2.2.2.2.2.2.2.2.2 0)
 else
 bif eqS t0.2.2.2.2.2.2.2.2.2.1 ([] : List Int) then
 bif ward then
 some true
 else
 some (eqI t0.2.2.2.2.2.2.2.2.2.2 0)
 else
 some false
 else
 some false
 else
 z0s (List.length t0.2.2.2.2.2.2.2.1) (
 bif eqI (List.length t0.2.2.2.2.2.2.2.1 : Nat) 0 then
 bif off then
 bif data then
 bif ward then
 some true
 else
 some (eqI t0.2.2.2.2.2.2.2.2.2.2 0)
 else
 bif eqS t0.2.2.2.2.2.2.2.2.2.1 ([] : List Int) then
 bif ward then
 some true
 else
 some (eqI t0.2.2.2.2.2.2.2.2.2.2 0)
 else
 some false
 else
 bif eqI t0.2.2.2.2.2.2.2.2.1 0 then
 bif data then
 bif ward then
 some true
 else
 some (eqI t0.2.2.2.2.2.2.2.2.2.2 0)
 else
 bif eqS t0.2.2.2.2.2.2.2.2.2.1 ([] : List Int) then
 bif ward then
 some true
 else
 some (eqI t0.2.2.2.2.2.2.2.2.2.2 0)
 else
 some false
 else
 some false
 else
 some false)
 else
 some false)
 else
 some false
 else
 some false
 else
 some false
def z1ar : Sig := ⟨83, [.d c9, .d .bool, .d .bool, .d .bool, .d .bool, .d .bool, .d .bool, .d .bool], [], 0, z1an⟩
def z19y (x : T1 × Bool × Bool × Bool × Bool × Bool × Bool × Bool) : Option ((Bool)) := zbj x.1 x.2.1 x.2.2.1 x.2.2.2.1 x.2.2.2.2.1 x.2.2.2.2.2.1 x.2.2.2.2.2.2.1 x.2.2.2.2.2.2.2
theorem z1m5 : FnOK Try.prog z1ar z19y :=
 fn_ok z1jz (h := .no) Try.func83 (z0p [] (by kernel_rfl) trivial) (by kernel_rfl) z1hm (fun x => by kernel_rfl)
def z1me : Env := ⟨[(entQ zoa zmi), (entQ zua zrc), (entQ zy9 zvk), (entQ z1bk z19v), (entQ z1da z19i), (entQ z1ar z19y)], [], []⟩
theorem z10w : EnvsOK Try.prog z1me := ⟨z0o (z0q zs0) (z0o (z0q zz4) (z0o (z0q z1a6) (z0o (z0q z1lw) (z0o (z0q z1mj) (z0o (z0q z1m5) (z0x _)))))), z0t _, z0u _⟩
def zlh : Shp := ⟨233, 0, [(1, .pt 0 r8 [])], [.var 67 (.d c9)]⟩
def zlb : Shp := ⟨233, 0, [(2, .d .bool)], []⟩
def zac : XS := .or (.exit 0) zlh.xe (.one .ret zlb.xe)
theorem zvx : zac.OK := XS.or_ok (z0d zlh) (XS.one_ok (z0d zlb))
def za8 : Shp := ⟨233, 0, [(1, .pt 0 r8 []), (3, .d (.int .i64))], [.var 67 (.d c9)]⟩
abbrev zgd := Int × T1
abbrev znl := (T1) ⊕ (Bool)
def zgg (i : Int) (t1 : T1) : Option (zgd ⊕ znl) :=
 bif ltI i 8 then
 bif inI i 8 then
 (t1.2.1[i.toNat]?).bind fun x =>
 bif ltI 1048576 x then
 some (.inr (.inr false))
 else
 some (.inl (W64 (i + 1), t1))
 else none
 else
 some (.inr (.inl t1))
def z3x (s : zgd) : Option (zgd ⊕ znl) := zgg s.1 s.2
theorem zxe : SoundD Try.prog (.loop (subC (bodyC Try.f57) [1, 1, 0, 1, 0, 0])) (loopD za8.xe zac (loopC z3x)) :=
 z0v (S := za8.xe) (X := zac) z10w (h := .no) (z0p [] (by kernel_rfl) trivial) (z0d za8) zvx z3x (fun s => by kernel_rfl)
def zse : Shp := ⟨233, 0, [(1, .pt 0 r8 []), (4, .d .bool), (5, .d .bool)], [.var 67 (.d c9)]⟩
def zlu : XS := .one .normal zse.xe
theorem z16b : zlu.OK := XS.one_ok (z0d zse)
def zow : Shp := ⟨233, 0, [(1, .pt 0 r8 []), (4, .d .bool), (5, .d .bool), (6, .d .bool), (7, .d .bool)], [.var 67 (.d c9)]⟩
def zjm : XS := .one .normal zow.xe
theorem z10e : zjm.OK := XS.one_ok (z0d zow)
def zlq : Shp := ⟨233, 0, [(1, .pt 0 r8 []), (4, .d .bool), (5, .d .bool), (6, .d .bool), (7, .d .bool), (8, .d .bool)], [.var 67 (.d c9)]⟩
def zht : XS := .one .normal zlq.xe
theorem zww : zht.OK := XS.one_ok (z0d zlq)
def zg2 : Shp := ⟨233, 0, [(1, .pt 0 r8 []), (4, .d .bool), (5, .d .bool), (6, .d .bool), (7, .d .bool), (8, .d .bool), (93, .d (.int .i64)), (94, .d .bool)], [.var 67 (.d c9)]⟩
def zcg : XS := .one .normal zg2.xe
theorem zoq : zcg.OK := XS.one_ok (z0d zg2)
def z11i : Shp := ⟨1, 0, [(0, .d .bool)], []⟩
def z18s : XS := .one .ret z11i.xe
theorem z1fm : z18s.OK := XS.one_ok (z0d z11i)
def zu9 (t0 : T1) : Option ((Bool)) :=
 bif ltI t0.1.1 1 then
 some false
 else
 bif ltI 8 t0.1.1 then
 some false
 else
 bif ltI t0.1.2 1 then
 some false
 else
 bif ltI 1048576 t0.1.2 then
 some false
 else
 (zls t0.2.1 t0.1.1).bind fun r =>
 bif neI (WU32 (r + 1)) t0.1.2 then
 some false
 else
 (loopC z3x (0, t0)).bind fun o =>
 Sum.elim (fun y =>
 (show Option ((Bool × Bool × T1)) from
 (zmp y.2.1 y.2.2.2.1).bind fun r2 =>
 (zjr y.2.2.2.2.1).bind fun r3 =>
 bif r3 then
 some (r2, true, y)
 else
 (zmp y.2.1 y.2.2.2.2.1).bind fun r4 =>
 some (r2, r4, y)).bind fun j =>
 (show Option ((Bool × Bool × Bool × Bool × T1)) from
 z0s (List.length j.2.2.2.2.2.2.2.2.1) (
 bif leI (List.length j.2.2.2.2.2.2.2.2.1 : Nat) 8 then
 (znc j.2.2.2.2.2.2.2.2.1 j.2.2.2.1).bind fun r5 =>
 (znc j.2.2.2.2.2.2.2.2.2.1 j.2.2.2.1).bind fun r6 =>
 some (j.1, j.2.1, r5, r6, j.2.2)
 else
 (znc j.2.2.2.2.2.2.2.2.2.1 j.2.2.2.1).bind fun r7 =>
 some (j.1, j.2.1, false, r7, j.2.2))).bind fun j2 =>
 (show Option ((Bool × Bool × Bool × Bool × Bool × T1)) from
 bif leI 0 j2.2.2.2.2.2.2.2.2.2.2.2.2.1 then
 some (j2.1, j2.2.1, j2.2.2.1, j2.2.2.2.1, leI j2.2.2.2.2.2.2.2.2.2.2.2.2.1 200, j2.2.2.2.2)
 else
 some (j2.1, j2.2.1, j2.2.2.1, j2.2.2.2.1, false, j2.2.2.2.2)).bind fun j3 =>
 (show Option ((Bool × Bool × Bool × Bool × Bool × Int × Bool × T1)) from
 bif eqI j3.2.2.2.2.2.2.2.1 1 then
 some (j3.1, j3.2.1, j3.2.2.1, j3.2.2.2.1, j3.2.2.2.2.1, j3.2.2.2.2.2.2.2.1, eqI j3.2.2.2.2.2.2.2.1 1, j3.2.2.2.2.2)
 else
 some (j3.1, j3.2.1, j3.2.2.1, j3.2.2.2.1, j3.2.2.2.2.1, j3.2.2.2.2.2.2.2.1, eqI j3.2.2.2.2.2.2.2.1 2, j3.2.2.2.2.2)).bind fun j4 =>
 bif j4.2.2.2.2.2.2.1 then
 bif j4.2.1 then
 (zri j4.2.2.2.2.2.2.2.2.2.2.2.2.1).bind fun r8 =>
 bif r8 then
 (zbj j4.2.2.2.2.2.2.2 false true false false false false false).bind fun r9 =>
 some r9
 else
 some false
 else
 some false
 else
 bif eqI j4.2.2.2.2.2.1 3 then
 bif j4.1 then
 bif j4.2.2.2.1 then
 z0s (List.length j4.2.2.2.2.2.2.2.2.2.2.2.2.2.2.1) (
 bif leI (List.length j4.2.2.2.2.2.2.2.2.2.2.2.2.2.2.1 : Nat) 1 then
 bif j4.2.2.2.2.1 then
 bif !(eqS j4.2.2.2.2.2.2.2.2.2.2.2.2.2.2.2.2.1 ([] : List Int)) then
 z0s (List.length j4.2.2.2.2.2.2.2.2.2.2.2.2.2.2.2.2.1) (
 bif leI (List.length j4.2.2.2.2.2.2.2.2.2.2.2.2.2.2.2.2.1 : Nat) (W64 (200 - j4.2.2.2.2.2.2.2.2.2.2.2.2.2.2.2.1)) then
 (zbj j4.2.2.2.2.2.2.2 true false false true true true false).bind fun r10 =>
 some r10
 else
 some false)
 else
 some false
 else
 some false
 else
 some false)
 else
 some false
 else
 some false
 else
 bif eqI j4.2.2.2.2.2.1 4 then
 bif j4.1 then
 bif j4.2.2.2.1 then
 z0s (List.length j4.2.2.2.2.2.2.2.2.2.2.2.2.2.2.1) (
 bif leI (List.length j4.2.2.2.2.2.2.2.2.2.2.2.2.2.2.1 : Nat) 1 then
 bif j4.2.2.2.2.1 then
 (zbj j4.2.2.2.2.2.2.2 true false false true true false false).bind fun r11 =>
 some r11
 else
 some false
 else
 some false)
 else
 some false
 else
 some false
 else
 bif eqI j4.2.2.2.2.2.1 5 then
 bif j4.1 then
 bif j4.2.2.2.1 then
 z0s (List.length j4.2.2.2.2.2.2.2.2.2.2.2.2.2.2.1) (
 bif leI 2 (List.length j4.2.2.2.2.2.2.2.2.2.2.2.2.2.2.1 : Nat) then
 z0s (List.length j4.2.2.2.2.2.2.2.2.2.2.2.2.2.2.1) (
 bif leI (List.length j4.2.2.2.2.2.2.2.2.2.2.2.2.2.2.1 : Nat) 8 then
 z0s (List.length j4.2.2.2.2.2.2.2.2.2.2.2.2.2.2.2.2.1) (
 bif leI (List.length j4.2.2.2.2.2.2.2.2.2.2.2.2.2.2.2.2.1 : Nat) 200 then
 (zbj j4.2.2.2.2.2.2.2 true false false true false true false).bind fun r12 =>
 some r12
 else
 some false)
 else
 some false)
 else
 some false)
 else
 some false
 else
 some false
 else
 bif eqI j4.2.2.2.2.2.1 6 then
 bif j4.1 then
 bif j4.2.2.1 then
 (zbj j4.2.2.2.2.2.2.2 true false true false false false false).bind fun r13 =>
 some r13
 else
 some false
 else
 some false
 else
 bif eqI j4.2.2.2.2.2.1 7 then
 bif j4.1 then
 bif j4.2.2.1 then
 bif j4.2.1 then
 (zri j4.2.2.2.2.2.2.2.2.2.2.2.2.1).bind fun r14 =>
 bif r14 then
 (zbj j4.2.2.2.2.2.2.2 true true true false false false false).bind fun r15 =>
 some r15
 else
 some false
 else
 some false
 else
 some false
 else
 some false
 else
 bif eqI j4.2.2.2.2.2.1 8 then
 bif leI 1 j4.2.2.2.2.2.2.2.2.2.2.2.2.2.2.2.2.2 then
 bif leI j4.2.2.2.2.2.2.2.2.2.2.2.2.2.2.2.2.2 4 then
 (zbj j4.2.2.2.2.2.2.2 false false false false false false true).bind fun r16 =>
 some r16
 else
 some false
 else
 some false
 else
 bif eqI j4.2.2.2.2.2.1 9 then
 (zbj j4.2.2.2.2.2.2.2 false false false false false false false).bind fun r17 =>
 some r17
 else
 some false) (fun y2 =>
 some y2) o
def z19g : Sig := ⟨57, [.d c9], [], 0, z18s⟩
def z14m (x : T1) : Option ((Bool)) := zu9 x
theorem z1jl : FnOK Try.prog z19g z14m :=
 fn_ok z10w (h := (.two .no (.two .no (.two (.two .no (.over (loopD za8.xe zac (loopC z3x)))) (.join (fun _ => zlu) .no (.join (fun _ => zjm) .no (.join (fun _ => zht) .no (.two (.two .no (.join (fun _ => zcg) .no .no)) .no)))))))) Try.func57 (z0p [.den (.loop (subC (bodyC Try.f57) [1, 1, 0, 1, 0, 0])) (loopD za8.xe zac (loopC z3x)), .xs (fun _ => zlu), .xs (fun _ => zjm), .xs (fun _ => zht), .xs (fun _ => zcg)] (by kernel_rfl) ⟨zxe, (z2o z16b), (z2o z10e), (z2o zww), (z2o zoq), trivial⟩) (by kernel_rfl) z1fm (fun x => by kernel_rfl)
def z1n4 : Env := ⟨[], [], []⟩
theorem z1kc : EnvsOK Try.prog z1n4 := ⟨z0x _, z0t _, z0u _⟩
def z16c : Shp := ⟨1, 0, [(0, .d .bool)], []⟩
def z1bz : XS := .one .ret z16c.xe
theorem z1j9 : z1bz.OK := XS.one_ok (z0d z16c)
def zx8 (x : T0) : Option ((Bool)) :=
 bif eqI x.1 0 then
 some (eqI x.2 0)
 else
 some false
def z1c8 : Sig := ⟨84, [.d c0], [], 0, z1bz⟩
def z19e (x : T0) : Option ((Bool)) := zx8 x
theorem z1ms : FnOK Try.prog z1c8 z19e :=
 fn_ok z1kc (h := .no) Try.func84 (z0p [] (by kernel_rfl) trivial) (by kernel_rfl) z1j9 (fun x => by kernel_rfl)
def z1ka : Env := ⟨[], [], []⟩
theorem zya : EnvsOK Try.prog z1ka := ⟨z0x _, z0t _, z0u _⟩
def zmq : Shp := ⟨28, 0, [(4, .pt 0 r13 [])], [.var 49 (.d c14)]⟩
def zm6 : Shp := ⟨28, 0, [(4, .pt 0 r13 []), (5, .d .bool)], [.var 49 (.d c14)]⟩
def zbd : XS := .or (.exit 0) zmq.xe (.one .ret zm6.xe)
theorem zws : zbd.OK := XS.or_ok (z0d zmq) (XS.one_ok (z0d zm6))
def zbh : Shp := ⟨28, 0, [(2, .pt 0 r15 []), (3, .pt 1 r2 []), (4, .pt 2 r13 []), (6, .d (.int .i64))], [.var 33 (.d c17), .var 43 (.d c0), .var 49 (.d c14)]⟩
abbrev zi2 := Int × T5 × T0 × T4
abbrev zof := (T4) ⊕ (Bool × T4)
def zi3 (i : Int) (t2 : T5) (id : T0) (t4 : T4) : Option (zi2 ⊕ zof) :=
 z0s (List.length t2.2.1) (
 bif ltI i (List.length t2.2.1 : Nat) then
 (idxI t2.2.1 i).bind fun x =>
 bif eqU c0 x.1 id then
 (idxI t2.2.1 i).bind fun x2 =>
 some (.inr (.inr (true, x2)))
 else
 some (.inl (W64 (i + 1), t2, id, t4))
 else
 some (.inr (.inl t4)))
def z5s (s : zi2) : Option (zi2 ⊕ zof) := zi3 s.1 s.2.1 s.2.2.1 s.2.2.2
theorem zyn : SoundD Try.prog (.loop (subC (bodyC Try.f19) [1, 0, 1, 0, 0])) (loopD zbh.xe zbd (loopC z5s)) :=
 z0v (S := zbh.xe) (X := zbd) zya (h := .no) (z0p [] (by kernel_rfl) trivial) (z0d zbh) zws z5s (fun s => by kernel_rfl)
def zyp : Shp := ⟨1, 0, [(0, .tu [.d c14, .d .bool])], []⟩
def z15j : XS := .one .ret zyp.xe
theorem z1e8 : z15j.OK := XS.one_ok (z0d zyp)
def ze1 (t0 : T5) (id : T0) : Option ((T4 × Bool)) :=
 (loopC z5s (0, t0, id, ((0, 0), false, (0, 0), [], List.replicate 8 (0 : Int), []))).bind fun o =>
 Sum.elim (fun y =>
 some (((0, 0), false, (0, 0), [], List.replicate 8 (0 : Int), []), false)) (fun y2 =>
 some (y2.2, y2.1)) o
def znh : Sig := ⟨19, [.d c17, .d c0], [], 0, z15j⟩
def zl7 (x : T5 × T0) : Option ((T4 × Bool)) := ze1 x.1 x.2
theorem zry : FnOK Try.prog znh zl7 :=
 fn_ok zya (h := (.two .no (.two (.two .no (.over (loopD zbh.xe zbd (loopC z5s)))) .no))) Try.func19 (z0p [.den (.loop (subC (bodyC Try.f19) [1, 0, 1, 0, 0])) (loopD zbh.xe zbd (loopC z5s))] (by kernel_rfl) ⟨zyn, trivial⟩) (by kernel_rfl) z1e8 (fun x => by kernel_rfl)
def z1pl : Env := ⟨[(entQ z1c8 z19e), (entQ znh zl7)], [], []⟩
theorem z1mh : EnvsOK Try.prog z1pl := ⟨z0o (z0q z1ms) (z0o (z0q zry) (z0x _)), z0t _, z0u _⟩
def z18p : Shp := ⟨1, 0, [(0, .d (.int .i64))], []⟩
def z1en : XS := .one .ret z18p.xe
theorem z1ji : z1en.OK := XS.one_ok (z0d z18p)
def zuj (t0 : T5) (id : T0) : Option ((Int)) :=
 (zx8 id).bind fun r =>
 bif r then
 some 0
 else
 (ze1 t0 id).bind fun r2 =>
 bif !r2.2 then
 some 2
 else
 bif !r2.1.2.1 then
 some 22
 else
 some 0
def z1ey : Sig := ⟨59, [.d c17, .d c0], [], 0, z1en⟩
def z1db (x : T5 × T0) : Option ((Int)) := zuj x.1 x.2
theorem z1n3 : FnOK Try.prog z1ey z1db :=
 fn_ok z1mh (h := .no) Try.func59 (z0p [] (by kernel_rfl) trivial) (by kernel_rfl) z1ji (fun x => by kernel_rfl)
end Go.Proofs.Ytfbdjicfkcklfaa