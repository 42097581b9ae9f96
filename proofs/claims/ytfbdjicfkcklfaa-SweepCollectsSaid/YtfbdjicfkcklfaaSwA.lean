import Derived.Test.YtfbdjicfkcklfaaTm21to25
import Derived.Test.YtfbdjicfkcklfaaProg
set_option maxRecDepth 100000
set_option linter.unusedVariables false
noncomputable section
namespace Go.Proofs.Ytfbdjicfkcklfaa
open Go.Tm Go.Ab
abbrev T0 := Int × Int
abbrev T1 := T0 × (List Int) × Int × T0 × T0 × (List Int) × (List T0) × (List T0) × Int × (List Int) × Int
abbrev T2 := T0 × T0 × (List Int) × T0 × (List Int)
abbrev T3 := T0 × (List Int) × (List Int)
abbrev T4 := T0 × Bool × T0 × (List Int) × (List Int) × (List T3)
abbrev T5 := (List Int) × (List T4) × (List T2) × (List Int) × (List Bool)
def c0 : U := (.st (.cons (.int .i64) (.one (.int .u32))))
def c1 : U := (.arr 8 (.int .u32))
def r2 : Rt := .one (.st (.cons .leaf (.one .leaf)))
def c3 : U := (.sl (.st (.cons (.st (.cons (.int .i64) (.one (.int .u32)))) (.cons (.arr 8 (.int .u32)) (.cons (.int .i64) (.cons (.st (.cons (.int .i64) (.one (.int .u32)))) (.cons (.st (.cons (.int .i64) (.one (.int .u32)))) (.cons .str (.cons (.sl (.st (.cons (.int .i64) (.one (.int .u32))))) (.cons (.sl (.st (.cons (.int .i64) (.one (.int .u32))))) (.cons (.int .i64) (.cons .str (.one (.int .i64))))))))))))))
def c4 : U := (.sl (.st (.cons (.int .i64) (.one (.int .u32)))))
def c5 : U := (.sl (.st (.cons (.st (.cons (.int .i64) (.one (.int .u32)))) (.cons (.st (.cons (.int .i64) (.one (.int .u32)))) (.cons .str (.cons (.st (.cons (.int .i64) (.one (.int .u32)))) (.one (.arr 8 (.int .u32)))))))))
def c6 : U := (.st (.cons (.st (.cons (.int .i64) (.one (.int .u32)))) (.cons (.st (.cons (.int .i64) (.one (.int .u32)))) (.cons .str (.cons (.st (.cons (.int .i64) (.one (.int .u32)))) (.one (.arr 8 (.int .u32))))))))
def r7 : Rt := .one (.st (.cons (.st (.cons .leaf (.one .leaf))) (.cons (.st (.cons .leaf (.one .leaf))) (.cons .leaf (.cons (.st (.cons .leaf (.one .leaf))) (.one (.arr 8 .leaf)))))))
def r8 : Rt := .one (.st (.cons (.st (.cons .leaf (.one .leaf))) (.cons (.arr 8 .leaf) (.cons .leaf (.cons (.st (.cons .leaf (.one .leaf))) (.cons (.st (.cons .leaf (.one .leaf))) (.cons .leaf (.cons .leaf (.cons .leaf (.cons .leaf (.cons .leaf (.one .leaf))))))))))))
def c9 : U := (.st (.cons (.st (.cons (.int .i64) (.one (.int .u32)))) (.cons (.arr 8 (.int .u32)) (.cons (.int .i64) (.cons (.st (.cons (.int .i64) (.one (.int .u32)))) (.cons (.st (.cons (.int .i64) (.one (.int .u32)))) (.cons .str (.cons (.sl (.st (.cons (.int .i64) (.one (.int .u32))))) (.cons (.sl (.st (.cons (.int .i64) (.one (.int .u32))))) (.cons (.int .i64) (.cons .str (.one (.int .i64)))))))))))))
def c10 : U := (.sl (.st (.cons (.st (.cons (.int .i64) (.one (.int .u32)))) (.cons .str (.one (.arr 8 (.int .u32)))))))
def c11 : U := (.st (.cons (.st (.cons (.int .i64) (.one (.int .u32)))) (.cons .str (.one (.arr 8 (.int .u32))))))
def r12 : Rt := .one (.st (.cons (.st (.cons .leaf (.one .leaf))) (.cons .leaf (.one (.arr 8 .leaf)))))
def r13 : Rt := .one (.st (.cons (.st (.cons .leaf (.one .leaf))) (.cons .leaf (.cons (.st (.cons .leaf (.one .leaf))) (.cons .leaf (.cons (.arr 8 .leaf) (.one .leaf)))))))
def c14 : U := (.st (.cons (.st (.cons (.int .i64) (.one (.int .u32)))) (.cons .bool (.cons (.st (.cons (.int .i64) (.one (.int .u32)))) (.cons .str (.cons (.arr 8 (.int .u32)) (.one (.sl (.st (.cons (.st (.cons (.int .i64) (.one (.int .u32)))) (.cons .str (.one (.arr 8 (.int .u32))))))))))))))
def r15 : Rt := .one (.st (.cons (.arr 8 .leaf) (.cons .leaf (.cons .leaf (.cons (.arr 8 .leaf) (.one (.arr 8 .leaf)))))))
def c16 : U := (.arr 8 (.int .i64))
def c17 : U := (.st (.cons (.arr 8 (.int .u32)) (.cons (.sl (.st (.cons (.st (.cons (.int .i64) (.one (.int .u32)))) (.cons .bool (.cons (.st (.cons (.int .i64) (.one (.int .u32)))) (.cons .str (.cons (.arr 8 (.int .u32)) (.one (.sl (.st (.cons (.st (.cons (.int .i64) (.one (.int .u32)))) (.cons .str (.one (.arr 8 (.int .u32))))))))))))))) (.cons (.sl (.st (.cons (.st (.cons (.int .i64) (.one (.int .u32)))) (.cons (.st (.cons (.int .i64) (.one (.int .u32)))) (.cons .str (.cons (.st (.cons (.int .i64) (.one (.int .u32)))) (.one (.arr 8 (.int .u32))))))))) (.cons (.arr 8 (.int .i64)) (.one (.arr 8 .bool)))))))
def c18 : U := (.sl (.st (.cons (.st (.cons (.int .i64) (.one (.int .u32)))) (.cons .bool (.cons (.st (.cons (.int .i64) (.one (.int .u32)))) (.cons .str (.cons (.arr 8 (.int .u32)) (.one (.sl (.st (.cons (.st (.cons (.int .i64) (.one (.int .u32)))) (.cons .str (.one (.arr 8 (.int .u32)))))))))))))))
def z1ub : Env := ⟨[], [], []⟩
theorem z1d3 : EnvsOK Try.prog z1ub := ⟨z0w _, z0s _, z0t _⟩
def zp5 : Shp := ⟨20, 0, [(2, .pt 0 (.one (.arr 8 .leaf)) []), (3, .pt 1 (.one (.arr 8 .leaf)) [])], [.var 25 (.d c1), .var 25 (.d c1)]⟩
def zcd : XS := .one (.exit 0) zp5.xe
theorem z12g : zcd.OK := XS.one_ok (z0c zp5)
def zc6 : Shp := ⟨20, 0, [(1, .pt 0 r2 []), (2, .pt 1 (.one (.arr 8 .leaf)) []), (3, .pt 2 (.one (.arr 8 .leaf)) []), (4, .d (.int .i64))], [.var 43 (.d c0), .var 25 (.d c1), .var 25 (.d c1)]⟩
abbrev zjw := Int × T0 × (List Int) × (List Int)
abbrev zsf := ((List Int) × (List Int))
def zjx (i : Int) (id : T0) (t2 : List Int) (out : List Int) : Option (zjw ⊕ zsf) :=
 bif ltI i 8 then
 bif eqI (W64 (i + 1)) id.1 then
 bif inI i 8 then
 (out[i.toNat]?).bind fun _x =>
 some (.inl (W64 (i + 1), id, t2, out.set i.toNat id.2))
 else none
 else
 some (.inl (W64 (i + 1), id, t2, out))
 else
 some (.inr (t2, out))
def z6g (s : zjw) : Option (zjw ⊕ zsf) := zjx s.1 s.2.1 s.2.2.1 s.2.2.2
theorem z14i : SoundD Try.prog (.loop (subC (bodyC Try.f56) [1, 1, 0, 1, 0, 0])) (loopD zc6.xe zcd (loopC z6g)) :=
 z0v (S := zc6.xe) (X := zcd) z1d3 (h := .no) (z0p [] (by kernel_rfl) trivial) (z0c zc6) z12g z6g (fun s => by kernel_rfl)
def z1de : Shp := ⟨1, 0, [(0, .d c1)], []⟩
def z1iw : XS := .one .ret z1de.xe
theorem z1oi : z1iw.OK := XS.one_ok (z0c z1de)
def z15w (id : T0) : Option (((List Int))) :=
 (loopC z6g (0, id, List.replicate 8 (0 : Int), List.replicate 8 (0 : Int))).bind fun o =>
 some o.2
def z1j6 : Sig := ⟨56, [.d c0], [], 0, z1iw⟩
def z1f1 (x : T0) : Option (((List Int))) := z15w x
theorem z1sy : FnOK Try.prog z1j6 z1f1 :=
 fn_ok z1d3 (h := (.two .no (.two .no (.two (.two .no (.over (loopD zc6.xe zcd (loopC z6g)))) .no)))) Try.func56 (z0p [.den (.loop (subC (bodyC Try.f56) [1, 1, 0, 1, 0, 0])) (loopD zc6.xe zcd (loopC z6g))] (by kernel_rfl) ⟨z14i, trivial⟩) (by kernel_rfl) z1oi (fun x => by kernel_rfl)
def z1sp : Env := ⟨[], [], []⟩
theorem z18f : EnvsOK Try.prog z1sp := ⟨z0w _, z0s _, z0t _⟩
def zo2 : Shp := ⟨30, 0, [(4, .pt 0 (.one (.arr 8 .leaf)) []), (5, .pt 1 (.one (.arr 8 .leaf)) [])], [.var 25 (.d c1), .var 25 (.d c1)]⟩
def zb5 : XS := .one (.exit 0) zo2.xe
theorem zzl : zb5.OK := XS.one_ok (z0c zo2)
def zbc : Shp := ⟨30, 0, [(2, .pt 0 (.one (.arr 8 .leaf)) []), (3, .pt 1 (.one (.arr 8 .leaf)) []), (4, .pt 2 (.one (.arr 8 .leaf)) []), (5, .pt 3 (.one (.arr 8 .leaf)) []), (6, .d (.int .i64))], [.var 25 (.d c1), .var 25 (.d c1), .var 25 (.d c1), .var 25 (.d c1)]⟩
abbrev ziu := Int × (List Int) × (List Int) × (List Int) × (List Int)
abbrev zpx := ((List Int) × (List Int))
def zin (i : Int) (a : List Int) (b : List Int) (t4 : List Int) (out : List Int) : Option (ziu ⊕ zpx) :=
 bif ltI i 8 then
 bif inI i 8 then
 (a[i.toNat]?).bind fun x =>
 bif inI i 8 then
 (out[i.toNat]?).bind fun _x =>
 bif inI i 8 then
 (b[i.toNat]?).bind fun x2 =>
 bif inI i 8 then
 (a[i.toNat]?).bind fun x3 =>
 bif ltI x3 x2 then
 bif inI i 8 then
 (b[i.toNat]?).bind fun x4 =>
 bif inI i 8 then
 ((out.set i.toNat x)[i.toNat]?).bind fun _x2 =>
 some (.inl (W64 (i + 1), a, b, t4, (out.set i.toNat x).set i.toNat x4))
 else none
 else none
 else
 some (.inl (W64 (i + 1), a, b, t4, out.set i.toNat x))
 else none
 else none
 else none
 else none
 else
 some (.inr (t4, out))
def z5t (s : ziu) : Option (ziu ⊕ zpx) := zin s.1 s.2.1 s.2.2.1 s.2.2.2.1 s.2.2.2.2
theorem z13e : SoundD Try.prog (.loop (subC (bodyC Try.f17) [1, 1, 0, 1, 0, 0])) (loopD zbc.xe zb5 (loopC z5t)) :=
 z0v (S := zbc.xe) (X := zb5) z18f (h := .no) (z0p [] (by kernel_rfl) trivial) (z0c zbc) zzl z5t (fun s => by kernel_rfl)
def z18x : Shp := ⟨1, 0, [(0, .d c1)], []⟩
def z1ep : XS := .one .ret z18x.xe
theorem z1nc : z1ep.OK := XS.one_ok (z0c z18x)
def zkn (a : List Int) (b : List Int) : Option (((List Int))) :=
 (loopC z5t (0, a, b, List.replicate 8 (0 : Int), List.replicate 8 (0 : Int))).bind fun o =>
 some o.2
def zms : Sig := ⟨17, [.d c1, .d c1], [], 0, z1ep⟩
def zlq (x : (List Int) × (List Int)) : Option (((List Int))) := zkn x.1 x.2
theorem zra : FnOK Try.prog zms zlq :=
 fn_ok z18f (h := (.two .no (.two .no (.two (.two .no (.over (loopD zbc.xe zb5 (loopC z5t)))) .no)))) Try.func17 (z0p [.den (.loop (subC (bodyC Try.f17) [1, 1, 0, 1, 0, 0])) (loopD zbc.xe zb5 (loopC z5t))] (by kernel_rfl) ⟨z13e, trivial⟩) (by kernel_rfl) z1nc (fun x => by kernel_rfl)
def z1sh : Env := ⟨[(entQ z1j6 z1f1), (entQ zms zlq)], [], []⟩
theorem z1nv : EnvsOK Try.prog z1sh := ⟨z0o (z0q z1sy) (z0o (z0q zra) (z0w _)), z0s _, z0t _⟩
def z19d : Shp := ⟨1, 0, [(0, .d c1)], []⟩
def z1h0 : XS := .one .ret z19d.xe
theorem z1mf : z1h0.OK := XS.one_ok (z0c z19d)
def za3 (v : List Int) (id : T0) : Option (((List Int))) :=
 (z15w id).bind fun r =>
 (zkn v r).bind fun r2 =>
 some r2
def z9m : Sig := ⟨33, [.d c1, .d c0], [], 0, z1h0⟩
def z7t (x : (List Int) × T0) : Option (((List Int))) := za3 x.1 x.2
theorem z9y : FnOK Try.prog z9m z7t :=
 fn_ok z1nv (h := .no) Try.func33 (z0p [] (by kernel_rfl) trivial) (by kernel_rfl) z1mf (fun x => by kernel_rfl)
def z1qz : Env := ⟨[(entQ z9m z7t)], [], []⟩
theorem z16a : EnvsOK Try.prog z1qz := ⟨z0o (z0q z9y) (z0w _), z0s _, z0t _⟩
def zmi : Shp := ⟨20, 0, [(2, .pt 0 (.one (.arr 8 .leaf)) []), (3, .pt 1 (.one (.arr 8 .leaf)) [])], [.var 25 (.d c1), .var 25 (.d c1)]⟩
def zaj : XS := .one (.exit 0) zmi.xe
theorem zyc : zaj.OK := XS.one_ok (z0c zmi)
def zae : Shp := ⟨20, 0, [(0, .d c3), (2, .pt 0 (.one (.arr 8 .leaf)) []), (3, .pt 1 (.one (.arr 8 .leaf)) []), (4, .d (.int .i64))], [.var 25 (.d c1), .var 25 (.d c1)]⟩
abbrev zh2 := (List T1) × Int × (List Int) × (List Int)
abbrev zpg := ((List Int) × (List Int))
def zh0 (l : List T1) (i : Int) (t2 : List Int) (v : List Int) : Option (zh2 ⊕ zpg) :=
 z0u (List.length l) (
 bif ltI i (List.length l : Nat) then
 (idxI l i).bind fun x =>
 (za3 v x.1).bind fun r =>
 some (.inl (l, W64 (i + 1), t2, r))
 else
 some (.inr (t2, v)))
def z5d (s : zh2) : Option (zh2 ⊕ zpg) := zh0 s.1 s.2.1 s.2.2.1 s.2.2.2
theorem z10i : SoundD Try.prog (.loop (subC (bodyC Try.f28) [1, 1, 0, 1, 0, 0])) (loopD zae.xe zaj (loopC z5d)) :=
 z0v (S := zae.xe) (X := zaj) z16a (h := .no) (z0p [] (by kernel_rfl) trivial) (z0c zae) zyc z5d (fun s => by kernel_rfl)
def z16d : Shp := ⟨1, 0, [(0, .d c1)], []⟩
def z1da : XS := .one .ret z16d.xe
theorem z1ks : z1da.OK := XS.one_ok (z0c z16d)
def zqw (l : List T1) : Option (((List Int))) :=
 (loopC z5d (l, 0, List.replicate 8 (0 : Int), List.replicate 8 (0 : Int))).bind fun o =>
 some o.2
def zxw : Sig := ⟨28, [.d c3], [], 0, z1da⟩
def zve (x : (List T1)) : Option (((List Int))) := zqw x
theorem z1a6 : FnOK Try.prog zxw zve :=
 fn_ok z16a (h := (.two .no (.two .no (.two (.two .no (.over (loopD zae.xe zaj (loopC z5d)))) .no)))) Try.func28 (z0p [.den (.loop (subC (bodyC Try.f28) [1, 1, 0, 1, 0, 0])) (loopD zae.xe zaj (loopC z5d))] (by kernel_rfl) ⟨z10i, trivial⟩) (by kernel_rfl) z1ks (fun x => by kernel_rfl)
def z1wm : Env := ⟨[], [], []⟩
theorem z1g9 : EnvsOK Try.prog z1wm := ⟨z0w _, z0s _, z0t _⟩
def zt6 : Shp := ⟨18, 0, [], []⟩
def zuk : Shp := ⟨18, 0, [(4, .d .bool)], []⟩
def ze9 : XS := .or (.exit 0) zt6.xe (.one .ret zuk.xe)
theorem z1b2 : ze9.OK := XS.or_ok (z0c zt6) (XS.one_ok (z0c zuk))
def zeo : Shp := ⟨18, 0, [(0, .d c4), (3, .pt 0 r2 []), (5, .d (.int .i64))], [.var 43 (.d c0)]⟩
abbrev zmu := (List T0) × Int × T0
abbrev zwq := (Unit) ⊕ (Bool)
def zhb (l : List T0) (i : Int) (x : T0) : Option (zmu ⊕ zwq) :=
 z0u (List.length l) (
 bif ltI i (List.length l : Nat) then
 (idxI l i).bind fun x2 =>
 bif eqU c0 x2 x then
 some (.inr (.inr true))
 else
 some (.inl (l, W64 (i + 1), x))
 else
 some (.inr (.inl ())))
def z7c (s : zmu) : Option (zmu ⊕ zwq) := zhb s.1 s.2.1 s.2.2
theorem z1bi : SoundD Try.prog (.loop (subC (bodyC Try.f53) [1, 0, 1, 0, 0])) (loopD zeo.xe ze9 (loopC z7c)) :=
 z0v (S := zeo.xe) (X := ze9) z1g9 (h := .no) (z0p [] (by kernel_rfl) trivial) (z0c zeo) z1b2 z7c (fun s => by kernel_rfl)
def z1fv : Shp := ⟨1, 0, [(0, .d .bool)], []⟩
def z1l4 : XS := .one .ret z1fv.xe
theorem z1qe : z1l4.OK := XS.one_ok (z0c z1fv)
def ziz (l : List T0) (x : T0) : Option ((Bool)) :=
 (loopC z7c (l, 0, x)).bind fun o =>
 Sum.elim (fun y =>
 some false) (fun y2 =>
 some y2) o
def zuj : Sig := ⟨53, [.d c4, .d c0], [], 0, z1l4⟩
def zpu (x : (List T0) × T0) : Option ((Bool)) := ziz x.1 x.2
theorem zwa : FnOK Try.prog zuj zpu :=
 fn_ok z1g9 (h := (.two .no (.two (.two .no (.over (loopD zeo.xe ze9 (loopC z7c)))) .no))) Try.func53 (z0p [.den (.loop (subC (bodyC Try.f53) [1, 0, 1, 0, 0])) (loopD zeo.xe ze9 (loopC z7c))] (by kernel_rfl) ⟨z1bi, trivial⟩) (by kernel_rfl) z1qe (fun x => by kernel_rfl)
def z1ns : Env := ⟨[], [], []⟩
theorem z1k1 : EnvsOK Try.prog z1ns := ⟨z0w _, z0s _, z0t _⟩
def z11p : Shp := ⟨1, 0, [(0, .d .bool)], []⟩
def z18e : XS := .one .ret z11p.xe
theorem z1hy : z18e.OK := XS.one_ok (z0c z11p)
def zbp (a : T0) (b : T0) : Option ((Bool)) :=
 bif ltI a.2 b.2 then
 some true
 else
 bif eqI a.2 b.2 then
 some (ltI a.1 b.1)
 else
 some false
def zc8 : Sig := ⟨31, [.d c0, .d c0], [], 0, z18e⟩
def zas (x : T0 × T0) : Option ((Bool)) := zbp x.1 x.2
theorem zct : FnOK Try.prog zc8 zas :=
 fn_ok z1k1 (h := .no) Try.func31 (z0p [] (by kernel_rfl) trivial) (by kernel_rfl) z1hy (fun x => by kernel_rfl)
def z1ua : Env := ⟨[(entQ zms zlq), (entQ zc8 zas)], [], []⟩
theorem z1dp : EnvsOK Try.prog z1ua := ⟨z0o (z0q zra) (z0o (z0q zct) (z0w _)), z0s _, z0t _⟩
def zfd : Shp := ⟨67, 0, [(0, .d c5), (3, .pt 0 r7 []), (5, .wn 1 c6), (6, .d .bool), (7, .d (.int .i64))], [.var 45 (.d c6), .row 45 c6]⟩
def zc0 : XS := .one .normal zfd.xe
theorem zos : zc0.OK := XS.one_ok (z0c zfd)
def zen : Shp := ⟨67, 0, [(0, .d c5), (3, .pt 0 r7 []), (5, .wn 1 c6), (6, .d .bool), (7, .d (.int .i64)), (48, .d .bool)], [.var 45 (.d c6), .row 45 c6]⟩
def zao : XS := .one .normal zen.xe
theorem zmo : zao.OK := XS.one_ok (z0c zen)
def zmh : Shp := ⟨67, 0, [(3, .pt 0 r7 []), (5, .wn 1 c6), (6, .d .bool)], [.var 45 (.d c6), .row 45 c6]⟩
def za8 : XS := .one (.exit 0) zmh.xe
theorem zxs : za8.OK := XS.one_ok (z0c zmh)
def zaa : Shp := ⟨67, 0, [(0, .d c5), (3, .pt 0 r7 []), (5, .wn 1 c6), (6, .d .bool), (7, .d (.int .i64))], [.var 45 (.d c6), .row 45 c6]⟩
abbrev zgu := (List T2) × Bool × Int × T2 × (List T2)
abbrev zp7 := (Bool × T2 × (List T2))
def zd9 (l : List T2) (put : Bool) (i : Int) (x : T2) (out : List T2) : Option (zgu ⊕ zp7) :=
 z0u (List.length l) (
 bif ltI i (List.length l : Nat) then
 (idxI l i).bind fun x2 =>
 bif eqU c0 x2.1 x.1 then
 (idxI l i).bind fun x3 =>
 (zkn x3.2.2.2.2 x.2.2.2.2).bind fun r =>
 bif Nat.beq (List.length out) (List.length out) then
 appG (List.length out) (List.length ([(x3.1, x3.2.1, x3.2.2.1, x3.2.2.2.1, r)] : List T2)) 96 fun _ =>
 bif Nat.beq (List.length (out ++ ([(x3.1, x3.2.1, x3.2.2.1, x3.2.2.2.1, r)] : List T2))) (List.length (out ++ ([(x3.1, x3.2.1, x3.2.2.1, x3.2.2.2.1, r)] : List T2))) then
 some (.inl (l, true, W64 (i + 1), x, out ++ ([(x3.1, x3.2.1, x3.2.2.1, x3.2.2.2.1, r)] : List T2)))
 else none
 else none
 else
 (show Option (((List T2) × Bool × Int × T2 × (List T2))) from
 (show Option (((List T2) × Bool × Int × Bool × T2 × (List T2))) from
 bif !put then
 (idxI l i).bind fun x4 =>
 (zbp x.1 x4.1).bind fun r2 =>
 bif Nat.beq (List.length out) (List.length out) then
 some (l, put, i, r2, x, out)
 else none
 else
 bif Nat.beq (List.length out) (List.length out) then
 some (l, put, i, false, x, out)
 else none).bind fun j =>
 bif j.2.2.2.1 then
 bif Nat.beq (List.length j.2.2.2.2.2) (List.length j.2.2.2.2.2) then
 appG (List.length j.2.2.2.2.2) (List.length ([j.2.2.2.2.1] : List T2)) 96 fun _ =>
 bif Nat.beq (List.length (j.2.2.2.2.2 ++ ([j.2.2.2.2.1] : List T2))) (List.length (j.2.2.2.2.2 ++ ([j.2.2.2.2.1] : List T2))) then
 some (j.1, true, j.2.2.1, j.2.2.2.2.1, j.2.2.2.2.2 ++ ([j.2.2.2.2.1] : List T2))
 else none
 else none
 else
 bif Nat.beq (List.length j.2.2.2.2.2) (List.length j.2.2.2.2.2) then
 some (j.1, j.2.1, j.2.2.1, j.2.2.2.2.1, j.2.2.2.2.2)
 else none).bind fun j2 =>
 (idxI j2.1 j2.2.2.1).bind fun x5 =>
 bif Nat.beq (List.length j2.2.2.2.2) (List.length j2.2.2.2.2) then
 appG (List.length j2.2.2.2.2) (List.length ([x5] : List T2)) 96 fun _ =>
 bif Nat.beq (List.length (j2.2.2.2.2 ++ ([x5] : List T2))) (List.length (j2.2.2.2.2 ++ ([x5] : List T2))) then
 some (.inl (j2.1, j2.2.1, W64 (j2.2.2.1 + 1), j2.2.2.2.1, j2.2.2.2.2 ++ ([x5] : List T2)))
 else none
 else none
 else
 bif Nat.beq (List.length out) (List.length out) then
 some (.inr (put, x, out))
 else none)
def z3p (s : zgu) : Option (zgu ⊕ zp7) := zd9 s.1 s.2.1 s.2.2.1 s.2.2.2.1 s.2.2.2.2
theorem zzc : SoundD Try.prog (.loop (subC (bodyC Try.f54) [1, 1, 1, 0, 1, 0, 0])) (loopD zaa.xe za8 (loopC z3p)) :=
 z0v (S := zaa.xe) (X := za8) z1dp (h := (.two .no (.two (.two .no (.join (fun _ => zc0) (.join (fun _ => zao) .no .no) .no)) .no))) (z0p [.xs (fun _ => zc0), .xs (fun _ => zao)] (by kernel_rfl) ⟨(z2k zos), (z2k zmo), trivial⟩) (z0c zaa) zxs z3p (fun s => by kernel_rfl)
def z1cx : Shp := ⟨1, 0, [(0, .d c5)], []⟩
def z1iz : XS := .one .ret z1cx.xe
theorem z1o9 : z1iz.OK := XS.one_ok (z0c z1cx)
def zhy (l : List T2) (x : T2) : Option (((List T2))) :=
 bif Nat.beq 0 (List.length ([] : List T2)) then
 (loopC z3p (l, false, 0, x, ([] : List T2))).bind fun o =>
 bif !o.1 then
 bif Nat.beq (List.length o.2.2) (List.length o.2.2) then
 appG (List.length o.2.2) (List.length ([o.2.1] : List T2)) 96 fun _ =>
 winK (o.2.2 ++ ([o.2.1] : List T2)) 0 (List.length (o.2.2 ++ ([o.2.1] : List T2))) fun w =>
 some w
 else none
 else
 winK o.2.2 0 (List.length o.2.2) fun w2 =>
 some w2
 else none
def z17g : Sig := ⟨54, [.d c5, .d c6], [], 0, z1iz⟩
def z13h (x : (List T2) × T2) : Option (((List T2))) := zhy x.1 x.2
theorem z1h7 : FnOK Try.prog z17g z13h :=
 fn_ok z1dp (h := (.two .no (.two .no (.two .no (.two (.two .no (.over (loopD zaa.xe za8 (loopC z3p)))) .no))))) Try.func54 (z0p [.den (.loop (subC (bodyC Try.f54) [1, 1, 1, 0, 1, 0, 0])) (loopD zaa.xe za8 (loopC z3p))] (by kernel_rfl) ⟨zzc, trivial⟩) (by kernel_rfl) z1o9 (fun x => by kernel_rfl)
def z1m9 : Env := ⟨[(entQ zuj zpu), (entQ z9m z7t), (entQ z17g z13h)], [], []⟩
theorem zpn : EnvsOK Try.prog z1m9 := ⟨z0o (z0q zwa) (z0o (z0q z9y) (z0o (z0q z1h7) (z0w _))), z0s _, z0t _⟩
def ze6 : Shp := ⟨101, 0, [(0, .d c3), (3, .d c5), (4, .d (.int .i64)), (5, .pt 0 r8 [])], [.var 67 (.d c9)]⟩
def zej : Shp := ⟨101, 0, [(0, .d c3), (3, .d c5), (4, .d (.int .i64)), (23, .pt 0 r8 [.fld 2]), (24, .d (.int .i64)), (25, .d .bool), (28, .pt 0 r8 [.fld 2]), (29, .d (.int .i64)), (30, .d .bool)], [.var 67 (.d c9)]⟩
def zar : XS := .or .normal ze6.xe (.one (.exit 1) zej.xe)
theorem zmq : zar.OK := XS.or_ok (z0c ze6) (XS.one_ok (z0c zej))
def zcm : Shp := ⟨101, 0, [(0, .d c3), (3, .d c5), (4, .d (.int .i64)), (6, .pt 0 r7 [])], [.var 45 (.d c6)]⟩
def z8h : XS := .one .normal zcm.xe
theorem zjz : z8h.OK := XS.one_ok (z0c zcm)
def z6d : Shp := ⟨101, 0, [(0, .d c3), (3, .d c5), (4, .d (.int .i64)), (6, .pt 0 r7 []), (7, .d (.int .i64)), (8, .d .bool)], [.var 45 (.d c6)]⟩
def z3h : XS := .one .normal z6d.xe
theorem zdc : z3h.OK := XS.one_ok (z0c z6d)
def z5z : Shp := ⟨101, 0, [(0, .d c3), (3, .d c5), (4, .d (.int .i64)), (6, .pt 0 r7 []), (7, .d (.int .i64)), (87, .d .bool)], [.var 45 (.d c6)]⟩
def z2y : XS := .one .normal z5z.xe
theorem zd5 : z2y.OK := XS.one_ok (z0c z5z)
def z9c : Shp := ⟨101, 0, [(0, .d c3), (3, .d c5), (4, .d (.int .i64)), (6, .pt 0 r7 [])], [.var 45 (.d c6)]⟩
def z2a : XS := .one (.exit 2) z9c.xe
theorem zfm : z2a.OK := XS.one_ok (z0c z9c)
def z1z : Shp := ⟨101, 0, [(0, .d c3), (3, .d c5), (4, .d (.int .i64)), (6, .pt 0 r7 []), (7, .d (.int .i64))], [.var 45 (.d c6)]⟩
abbrev z4w := (List T1) × (List T2) × Int × Int × T2
abbrev z9z := ((List T1) × (List T2) × Int × T2)
def z1y (l : List T1) (out : List T2) (i : Int) (k : Int) (x : T2) : Option (z4w ⊕ z9z) :=
 z0u (List.length l) (
 bif ltI k (List.length l : Nat) then
 (show Option (((List T1) × (List T2) × Int × Int × Bool × T2)) from
 (idxI l k).bind fun x2 =>
 bif eqI x2.2.2.1 6 then
 some (l, out, i, k, true, x)
 else
 (idxI l k).bind fun x3 =>
 some (l, out, i, k, eqI x3.2.2.1 7, x)).bind fun j =>
 (show Option (((List T1) × (List T2) × Int × Int × Bool × T2)) from
 bif j.2.2.2.2.1 then
 (idxI j.1 j.2.2.2.1).bind fun x4 =>
 bif eqU c0 x4.2.2.2.1 j.2.2.2.2.2.2.2.2.1 then
 (idxI j.1 j.2.2.2.1).bind fun x5 =>
 (ziz x5.2.2.2.2.2.2.1 j.2.2.2.2.2.1).bind fun r =>
 some (j.1, j.2.1, j.2.2.1, j.2.2.2.1, r, j.2.2.2.2.2)
 else
 some (j.1, j.2.1, j.2.2.1, j.2.2.2.1, false, j.2.2.2.2.2)
 else
 some (j.1, j.2.1, j.2.2.1, j.2.2.2.1, false, j.2.2.2.2.2)).bind fun j2 =>
 bif j2.2.2.2.2.1 then
 (idxI j2.1 j2.2.2.2.1).bind fun x6 =>
 (za3 j2.2.2.2.2.2.2.2.2.2 x6.1).bind fun r2 =>
 some (.inl (j2.1, j2.2.1, j2.2.2.1, W64 (j2.2.2.2.1 + 1), (j2.2.2.2.2.2.1, j2.2.2.2.2.2.2.1, j2.2.2.2.2.2.2.2.1, j2.2.2.2.2.2.2.2.2.1, r2)))
 else
 some (.inl (j2.1, j2.2.1, j2.2.2.1, W64 (j2.2.2.2.1 + 1), j2.2.2.2.2.2))
 else
 some (.inr (l, out, i, x)))
def z0x (s : z4w) : Option (z4w ⊕ z9z) := z1y s.1 s.2.1 s.2.2.1 s.2.2.2.1 s.2.2.2.2
theorem zg1 : SoundD Try.prog (.loop (subC (bodyC Try.f29) [1, 1, 0, 1, 0, 0, 1, 0, 0, 1, 1, 1, 1, 0, 1, 0, 0])) (loopD z1z.xe z2a (loopC z0x)) :=
 z0v (S := z1z.xe) (X := z2a) zpn (h := (.two .no (.two (.join (fun _ => z3h) .no (.join (fun _ => z2y) .no .no)) .no))) (z0p [.xs (fun _ => z3h), .xs (fun _ => z2y)] (by kernel_rfl) ⟨(z2k zdc), (z2k zd5), trivial⟩) (z0c z1z) zfm z0x (fun s => by kernel_rfl)
def zk4 : Shp := ⟨101, 0, [(3, .d c5)], []⟩
def z8x : XS := .one (.exit 0) zk4.xe
theorem zvl : z8x.OK := XS.one_ok (z0c zk4)
def z8r : Shp := ⟨101, 0, [(0, .d c3), (3, .d c5), (4, .d (.int .i64))], []⟩
abbrev zfp := (List T1) × (List T2) × Int
abbrev zmc := ((List T2))
def z8v (l : List T1) (out : List T2) (i : Int) : Option (zfp ⊕ zmc) :=
 z0u (List.length l) (
 bif ltI i (List.length l : Nat) then
 (idxI l i).bind fun x =>
 (show Option (((List T1) × (List T2) × Int × T1) ⊕ ((List T1) × (List T2) × Int × Int × Bool × Int × Bool × T1)) from
 bif neI x.2.2.1 1 then
 bif neI x.2.2.1 2 then
 bif neI x.2.2.1 7 then
 some (.inr (l, out, i, x.2.2.1, neI x.2.2.1 2, x.2.2.1, neI x.2.2.1 7, x))
 else
 some (.inl (l, out, i, x))
 else
 some (.inl (l, out, i, x))
 else
 some (.inl (l, out, i, x))).bind fun j =>
 Sum.elim (fun y =>
 (show Option (((List T1) × (List T2) × Int × T2)) from
 bif eqI y.2.2.2.2.2.1 7 then
 some (y.1, y.2.1, y.2.2.1, (y.2.2.2.1, y.2.2.2.2.2.2.2.1, y.2.2.2.2.2.2.2.2.1, y.2.2.2.2.2.2.1, List.replicate 8 (0 : Int)))
 else
 some (y.1, y.2.1, y.2.2.1, (y.2.2.2.1, y.2.2.2.2.2.2.2.1, y.2.2.2.2.2.2.2.2.1, y.2.2.2.1, List.replicate 8 (0 : Int)))).bind fun j2 =>
 (loopC z0x (j2.1, j2.2.1, j2.2.2.1, 0, j2.2.2.2)).bind fun o =>
 (zhy o.2.1 o.2.2.2).bind fun r =>
 some (.inl (o.1, r, W64 (o.2.2.1 + 1)))) (fun y2 =>
 some (.inl (y2.1, y2.2.1, W64 (y2.2.2.1 + 1)))) j
 else
 some (.inr out))
def z2s (s : zfp) : Option (zfp ⊕ zmc) := z8v s.1 s.2.1 s.2.2
theorem zwy : SoundD Try.prog (.loop (subC (bodyC Try.f29) [1, 1, 0, 1, 0, 0])) (loopD z8r.xe z8x (loopC z2s)) :=
 z0v (S := z8r.xe) (X := z8x) zpn (h := (.two .no (.two (.two .no (.join (fun _ => zar) .no (.two .no (.join (fun _ => z8h) .no (.two (.two .no (.over (loopD z1z.xe z2a (loopC z0x)))) .no))))) .no))) (z0p [.xs (fun _ => zar), .xs (fun _ => z8h), .den (.loop (subC (bodyC Try.f29) [1, 1, 0, 1, 0, 0, 1, 0, 0, 1, 1, 1, 1, 0, 1, 0, 0])) (loopD z1z.xe z2a (loopC z0x))] (by kernel_rfl) ⟨(z2k zmq), (z2k zjz), zg1, trivial⟩) (z0c z8r) zvl z2s (fun s => by kernel_rfl)
def zyl : Shp := ⟨1, 0, [(0, .d c5)], []⟩
def z16f : XS := .one .ret zyl.xe
theorem z1gp : z16f.OK := XS.one_ok (z0c zyl)
def zf2 (l : List T1) : Option (((List T2))) :=
 (loopC z2s (l, [], 0)).bind fun o =>
 some o
def z15t : Sig := ⟨29, [.d c3], [], 0, z16f⟩
def z13k (x : (List T1)) : Option (((List T2))) := zf2 x
theorem z1k5 : FnOK Try.prog z15t z13k :=
 fn_ok zpn (h := (.two .no (.two .no (.two (.two .no (.over (loopD z8r.xe z8x (loopC z2s)))) .no)))) Try.func29 (z0p [.den (.loop (subC (bodyC Try.f29) [1, 1, 0, 1, 0, 0])) (loopD z8r.xe z8x (loopC z2s))] (by kernel_rfl) ⟨zwy, trivial⟩) (by kernel_rfl) z1gp (fun x => by kernel_rfl)
def z1of : Env := ⟨[], [], []⟩
theorem z1jz : EnvsOK Try.prog z1of := ⟨z0w _, z0s _, z0t _⟩
def z10y : Shp := ⟨1, 0, [(0, .d .bool)], []⟩
def z18o : XS := .one .ret z10y.xe
theorem z1i9 : z18o.OK := XS.one_ok (z0c z10y)
def zg9 (t0 : T1) : Option ((Bool)) :=
 bif eqI t0.2.2.1 3 then
 some true
 else
 bif eqI t0.2.2.1 4 then
 some true
 else
 some (eqI t0.2.2.1 5)
def zvc : Sig := ⟨77, [.d c9], [], 0, z18o⟩
def zuf (x : T1) : Option ((Bool)) := zg9 x
theorem z14y : FnOK Try.prog zvc zuf :=
 fn_ok z1jz (h := .no) Try.func77 (z0p [] (by kernel_rfl) trivial) (by kernel_rfl) z1i9 (fun x => by kernel_rfl)
def z1t8 : Env := ⟨[], [], []⟩
theorem z19v : EnvsOK Try.prog z1t8 := ⟨z0w _, z0s _, z0t _⟩
def zqv : Shp := ⟨25, 0, [(4, .pt 0 r8 [])], [.var 67 (.d c9)]⟩
def zqj : Shp := ⟨25, 0, [(4, .pt 0 r8 []), (5, .d .bool)], [.var 67 (.d c9)]⟩
def zci : XS := .or (.exit 0) zqv.xe (.one .ret zqj.xe)
theorem z14h : zci.OK := XS.or_ok (z0c zqv) (XS.one_ok (z0c zqj))
def zcs : Shp := ⟨25, 0, [(0, .d c3), (3, .pt 0 r2 []), (4, .pt 1 r8 []), (6, .d (.int .i64))], [.var 43 (.d c0), .var 67 (.d c9)]⟩
abbrev zkj := (List T1) × Int × T0 × T1
abbrev ztg := (T1) ⊕ (Bool × T1)
def zl4 (l : List T1) (i : Int) (x : T0) (t4 : T1) : Option (zkj ⊕ ztg) :=
 z0u (List.length l) (
 bif ltI i (List.length l : Nat) then
 (idxI l i).bind fun x2 =>
 bif eqU c0 x2.1 x then
 (idxI l i).bind fun x3 =>
 some (.inr (.inr (true, x3)))
 else
 some (.inl (l, W64 (i + 1), x, t4))
 else
 some (.inr (.inl t4)))
def z7j (s : zkj) : Option (zkj ⊕ ztg) := zl4 s.1 s.2.1 s.2.2.1 s.2.2.2
theorem z17l : SoundD Try.prog (.loop (subC (bodyC Try.f91) [1, 0, 1, 0, 0])) (loopD zcs.xe zci (loopC z7j)) :=
 z0v (S := zcs.xe) (X := zci) z19v (h := .no) (z0p [] (by kernel_rfl) trivial) (z0c zcs) z14h z7j (fun s => by kernel_rfl)
def z19p : Shp := ⟨1, 0, [(0, .tu [.d c9, .d .bool])], []⟩
def z1fd : XS := .one .ret z19p.xe
theorem z1l7 : z1fd.OK := XS.one_ok (z0c z19p)
def zzt (l : List T1) (x : T0) : Option ((T1 × Bool)) :=
 (loopC z7j (l, 0, x, ((0, 0), List.replicate 8 (0 : Int), 0, (0, 0), (0, 0), [], [], [], 0, [], 0))).bind fun o =>
 Sum.elim (fun y =>
 some (((0, 0), List.replicate 8 (0 : Int), 0, (0, 0), (0, 0), [], [], [], 0, [], 0), false)) (fun y2 =>
 some (y2.2, y2.1)) o
def z1f9 : Sig := ⟨91, [.d c3, .d c0], [], 0, z1fd⟩
def z1du (x : (List T1) × T0) : Option ((T1 × Bool)) := zzt x.1 x.2
theorem z1qj : FnOK Try.prog z1f9 z1du :=
 fn_ok z19v (h := (.two .no (.two (.two .no (.over (loopD zcs.xe zci (loopC z7j)))) .no))) Try.func91 (z0p [.den (.loop (subC (bodyC Try.f91) [1, 0, 1, 0, 0])) (loopD zcs.xe zci (loopC z7j))] (by kernel_rfl) ⟨z17l, trivial⟩) (by kernel_rfl) z1l7 (fun x => by kernel_rfl)
def z1qc : Env := ⟨[], [], []⟩
theorem z15l : EnvsOK Try.prog z1qc := ⟨z0w _, z0s _, z0t _⟩
def zma : Shp := ⟨13, 0, [(3, .d .str)], []⟩
def zaf : XS := .one (.exit 0) zma.xe
theorem zxy : zaf.OK := XS.one_ok (z0c zma)
def za9 : Shp := ⟨13, 0, [(0, .d (.int .i64)), (3, .d .str), (4, .d (.int .i64))], []⟩
abbrev zgx := Int × (List Int) × Int
abbrev zp8 := ((List Int))
def zgs (n : Int) (t3 : List Int) (i : Int) : Option (zgx ⊕ zp8) :=
 bif ltI i n then
 catG t3 ([0] : List Int) fun _ =>
 some (.inl (n, t3 ++ ([0] : List Int), W64 (i + 1)))
 else
 some (.inr t3)
def z5b (s : zgx) : Option (zgx ⊕ zp8) := zgs s.1 s.2.1 s.2.2
theorem zzi : SoundD Try.prog (.loop (subC (bodyC Try.f95) [1, 1, 0, 1, 0, 0])) (loopD za9.xe zaf (loopC z5b)) :=
 z0v (S := za9.xe) (X := zaf) z15l (h := .no) (z0p [] (by kernel_rfl) trivial) (z0c za9) zxy z5b (fun s => by kernel_rfl)
def z16e : Shp := ⟨1, 0, [(0, .d .str)], []⟩
def z1d5 : XS := .one .ret z16e.xe
theorem z1jx : z1d5.OK := XS.one_ok (z0c z16e)
def zq5 (n : Int) : Option (((List Int))) :=
 (loopC z5b (n, ([] : List Int), 0)).bind fun o =>
 some o
def zxv : Sig := ⟨95, [.d (.int .i64)], [], 0, z1d5⟩
def zvw (x : Int) : Option (((List Int))) := zq5 x
theorem z19g : FnOK Try.prog zxv zvw :=
 fn_ok z15l (h := (.two .no (.two .no (.two (.two .no (.over (loopD za9.xe zaf (loopC z5b)))) .no)))) Try.func95 (z0p [.den (.loop (subC (bodyC Try.f95) [1, 1, 0, 1, 0, 0])) (loopD za9.xe zaf (loopC z5b))] (by kernel_rfl) ⟨zzi, trivial⟩) (by kernel_rfl) z1jx (fun x => by kernel_rfl)
def z1uc : Env := ⟨[(entQ zxv zvw)], [], []⟩
theorem z1r3 : EnvsOK Try.prog z1uc := ⟨z0o (z0q z19g) (z0w _), z0s _, z0t _⟩
def z1cv : Shp := ⟨1, 0, [(0, .tu [.d .str, .d (.int .i64)])], []⟩
def z1ii : XS := .one .ret z1cv.xe
theorem z1nw : z1ii.OK := XS.one_ok (z0c z1cv)
def z14u (data : List Int) (n : Int) : Option (((List Int) × Int)) :=
 bif ltI n 0 then
 some (([] : List Int), 4)
 else
 bif ltI 200 n then
 some (([] : List Int), 4)
 else
 z0u (List.length data) (
 (zq5 (W64 (n - (List.length data : Nat)))).bind fun r =>
 catG data r fun _ =>
 bif subOk 0 n (List.length (data ++ r)) then
 some (subL (data ++ r) 0 n, 0)
 else none)
def z1jd : Sig := ⟨92, [.d .str, .d (.int .i64)], [], 0, z1ii⟩
def z1fa (x : (List Int) × Int) : Option (((List Int) × Int)) := z14u x.1 x.2
theorem z1sm : FnOK Try.prog z1jd z1fa :=
 fn_ok z1r3 (h := .no) Try.func92 (z0p [] (by kernel_rfl) trivial) (by kernel_rfl) z1nw (fun x => by kernel_rfl)
def z1qq : Env := ⟨[(entQ zxv zvw)], [], []⟩
theorem z1lb : EnvsOK Try.prog z1qq := ⟨z0o (z0q z19g) (z0w _), z0s _, z0t _⟩
def z14x : Shp := ⟨1, 0, [(0, .tu [.d .str, .d (.int .i64)])], []⟩
def z1dj : XS := .one .ret z14x.xe
theorem z1kf : z1dj.OK := XS.one_ok (z0c z14x)
def zwe (data : List Int) (off : Int) (t2 : List Int) : Option (((List Int) × Int)) :=
 bif ltI off 0 then
 some (([] : List Int), 4)
 else
 bif ltI 200 off then
 some (([] : List Int), 4)
 else
 z0u (List.length data) (
 bif ltI 200 (List.length data : Nat) then
 some (([] : List Int), 4)
 else
 z0u (List.length t2) (
 bif ltI 200 (W64 (off + (List.length t2 : Nat))) then
 some (([] : List Int), 4)
 else
 z0u (List.length t2) (
 z0u (List.length data) (
 (zq5 (W64 ((W64 (off + (List.length t2 : Nat))) - (List.length data : Nat)))).bind fun r =>
 catG data r fun _ =>
 bif subOk 0 off (List.length (data ++ r)) then
 catG (subL (data ++ r) 0 off) t2 fun _ =>
 z0u (List.length t2) (
 bif subOk (W64 (off + (List.length t2 : Nat))) (List.length (data ++ r) : Nat) (List.length (data ++ r)) then
 catG ((subL (data ++ r) 0 off) ++ t2) (subL (data ++ r) (W64 (off + (List.length t2 : Nat))) (List.length (data ++ r) : Nat)) fun _ =>
 some ((((subL (data ++ r) 0 off) ++ t2) ++ (subL (data ++ r) (W64 (off + (List.length t2 : Nat))) (List.length (data ++ r) : Nat)), 0))
 else none)
 else none))))
def z1cr : Sig := ⟨93, [.d .str, .d (.int .i64), .d .str], [], 0, z1dj⟩
def z18k (x : (List Int) × Int × (List Int)) : Option (((List Int) × Int)) := zwe x.1 x.2.1 x.2.2
theorem z1o6 : FnOK Try.prog z1cr z18k :=
 fn_ok z1lb (h := .no) Try.func93 (z0p [] (by kernel_rfl) trivial) (by kernel_rfl) z1kf (fun x => by kernel_rfl)
def z15u : Shp := ⟨1, 0, [(0, .d .str)], []⟩
def z1dw : XS := .one .ret z15u.xe
theorem z14d : z1dw.OK := XS.one_ok (z0c z15u)
def zlt : Sig := ⟨78, [.d c3, .d c0], [], 0, z1dw⟩
def z1r0 (self : (List T1) × T0 → Option (((List Int)))) : Env := ⟨[(entQ z1f9 z1du), (entQ zlt self), (entQ z1jd z1fa), (entQ z1cr z18k)], [], []⟩
theorem z1mo {self : (List T1) × T0 → Option (((List Int)))} (hself : FnOK Try.prog zlt self) : EnvsOK Try.prog (z1r0 self) := ⟨z0o (z0q z1qj) (z0o (z0q hself) (z0o (z0q z1sm) (z0o (z0q z1o6) (z0w _)))), z0s _, z0t _⟩
def znh : Shp := ⟨56, 0, [(5, .pt 0 r8 []), (7, .d .str)], [.var 67 (.d c9)]⟩
def zib : XS := .one .normal znh.xe
theorem z10b : zib.OK := XS.one_ok (z0c znh)
def zr3 (self : (List T1) × T0 → Option (((List Int)))) (l : List T1) (x : T0) : Option (((List Int))) :=
 (zzt l x).bind fun r =>
 bif !r.2 then
 some ([] : List Int)
 else
 bif eqI r.1.2.2.1 5 then
 some r.1.2.2.2.2.2.2.2.2.2.1
 else
 (show Option (((List Int) × T1)) from
 z0u (List.length r.1.2.2.2.2.2.2.2.1) (
 bif ltI 0 (List.length r.1.2.2.2.2.2.2.2.1 : Nat) then
 (idxI r.1.2.2.2.2.2.2.2.1 0).bind fun x2 =>
 (self (l, x2)).bind fun r2 =>
 some (r2, r.1)
 else
 some (([] : List Int), r.1))).bind fun j =>
 bif eqI j.2.2.2.1 4 then
 (z14u j.1 j.2.2.2.2.2.2.2.2.2.1).bind fun r3 =>
 some r3.1
 else
 (zwe j.1 j.2.2.2.2.2.2.2.2.2.1 j.2.2.2.2.2.2.2.2.2.2.1).bind fun r4 =>
 some r4.1
def zl7 (self : (List T1) × T0 → Option (((List Int)))) (x : (List T1) × T0) : Option (((List Int))) := zr3 self x.1 x.2
def zok : ((List T1) × T0) → Option (((List Int))) := recC zl7
def z18a (l : List T1) (x : T0) : Option (((List Int))) := zok (l, x)
theorem z19a : FnOK Try.prog zlt zok :=
 z24a (by kernel_rfl) z14d (fun self hself => fn_ok (z1mo hself) (h := (.two .no (.two .no (.two .no (.two .no (.two .no (.join (fun _ => zib) .no .no))))))) Try.func78 (z0p [.xs (fun _ => zib)] (by kernel_rfl) ⟨(z2k z10b), trivial⟩) (by kernel_rfl) z14d (fun x => by kernel_rfl))
def z1u0 : Env := ⟨[], [], []⟩
theorem z1ap : EnvsOK Try.prog z1u0 := ⟨z0w _, z0s _, z0t _⟩
def z15h : Shp := ⟨33, 0, [(0, .d c10), (3, .pt 0 r2 [])], [.var 43 (.d c0)]⟩
def z16g : Shp := ⟨33, 0, [(4, .d .str), (5, .d (.int .i64))], []⟩
def zxz : XS := .or .normal z15h.xe (.one .ret z16g.xe)
theorem z1k9 : zxz.OK := XS.or_ok (z0c z15h) (XS.one_ok (z0c z16g))
def zo9 : Shp := ⟨33, 0, [], []⟩
def zoe : Shp := ⟨33, 0, [(4, .d .str), (5, .d (.int .i64))], []⟩
def zb4 : XS := .or (.exit 0) zo9.xe (.one .ret zoe.xe)
theorem zzh : zb4.OK := XS.or_ok (z0c zo9) (XS.one_ok (z0c zoe))
def zbl : Shp := ⟨33, 0, [(0, .d c10), (3, .pt 0 r2 []), (6, .d (.int .i64))], [.var 43 (.d c0)]⟩
abbrev ziq := (List T3) × Int × T0
abbrev zqn := (Unit) ⊕ ((List Int) × Int)
def zia (l : List T3) (i : Int) (id : T0) : Option (ziq ⊕ zqn) :=
 z0u (List.length l) (
 bif ltI i (List.length l : Nat) then
 (idxI l i).bind fun x =>
 bif eqU c0 x.1 id then
 (idxI l i).bind fun x2 =>
 some (.inr (.inr (x2.2.1, 0)))
 else
 some (.inl (l, W64 (i + 1), id))
 else
 some (.inr (.inl ())))
def z4d (s : ziq) : Option (ziq ⊕ zqn) := zia s.1 s.2.1 s.2.2
theorem z12v : SoundD Try.prog (.loop (subC (bodyC Try.f60) [1, 1, 0, 1, 0, 0])) (loopD zbl.xe zb4 (loopC z4d)) :=
 z0v (S := zbl.xe) (X := zb4) z1ap (h := .no) (z0p [] (by kernel_rfl) trivial) (z0c zbl) zzh z4d (fun s => by kernel_rfl)
def z18j : Shp := ⟨1, 0, [(0, .tu [.d .str, .d (.int .i64)])], []⟩
def z1gs : XS := .one .ret z18j.xe
theorem z1lg : z1gs.OK := XS.one_ok (z0c z18j)
def ztb (l : List T3) (id : T0) : Option (((List Int) × Int)) :=
 (show Option (((List T3) × T0) ⊕ ((List Int) × Int)) from
 bif eqI id.1 0 then
 bif eqI id.2 0 then
 some (.inr (([] : List Int), 0))
 else
 some (.inl (l, id))
 else
 some (.inl (l, id))).bind fun j =>
 Sum.elim (fun y =>
 (loopC z4d (y.1, 0, y.2)).bind fun o =>
 Sum.elim (fun y3 =>
 some (([] : List Int), 2)) (fun y4 =>
 some (y4.1, y4.2)) o) (fun y2 =>
 some (y2.1, y2.2)) j
def z12l : Sig := ⟨60, [.d c10, .d c0], [], 0, z1gs⟩
def zyb (x : (List T3) × T0) : Option (((List Int) × Int)) := ztb x.1 x.2
theorem z1cw : FnOK Try.prog z12l zyb :=
 fn_ok z1ap (h := (.two .no (.join (fun _ => zxz) .no (.two (.two .no (.over (loopD zbl.xe zb4 (loopC z4d)))) .no)))) Try.func60 (z0p [.xs (fun _ => zxz), .den (.loop (subC (bodyC Try.f60) [1, 1, 0, 1, 0, 0])) (loopD zbl.xe zb4 (loopC z4d))] (by kernel_rfl) ⟨(z2k z1k9), z12v, trivial⟩) (by kernel_rfl) z1lg (fun x => by kernel_rfl)
def z1ui : Env := ⟨[], [], []⟩
theorem z1dl : EnvsOK Try.prog z1ui := ⟨z0w _, z0s _, z0t _⟩
def zs4 : Shp := ⟨19, 0, [], []⟩
def zsg : Shp := ⟨19, 0, [(4, .d .bool)], []⟩
def zdm : XS := .or (.exit 0) zs4.xe (.one .ret zsg.xe)
theorem z18c : zdm.OK := XS.or_ok (z0c zs4) (XS.one_ok (z0c zsg))
def zda : Shp := ⟨19, 0, [(0, .d c10), (3, .pt 0 r2 []), (5, .d (.int .i64))], [.var 43 (.d c0)]⟩
abbrev zm7 := (List T3) × Int × T0
abbrev zv4 := (Unit) ⊕ (Bool)
def zm5 (l : List T3) (i : Int) (id : T0) : Option (zm7 ⊕ zv4) :=
 z0u (List.length l) (
 bif ltI i (List.length l : Nat) then
 (idxI l i).bind fun x =>
 bif eqU c0 x.1 id then
 some (.inr (.inr true))
 else
 some (.inl (l, W64 (i + 1), id))
 else
 some (.inr (.inl ())))
def z8d (s : zm7) : Option (zm7 ⊕ zv4) := zm5 s.1 s.2.1 s.2.2
theorem z19z : SoundD Try.prog (.loop (subC (bodyC Try.f94) [1, 0, 1, 0, 0])) (loopD zda.xe zdm (loopC z8d)) :=
 z0v (S := zda.xe) (X := zdm) z1dl (h := .no) (z0p [] (by kernel_rfl) trivial) (z0c zda) z18c z8d (fun s => by kernel_rfl)
def z1dg : Shp := ⟨1, 0, [(0, .d .bool)], []⟩
def z1iy : XS := .one .ret z1dg.xe
theorem z1nq : z1iy.OK := XS.one_ok (z0c z1dg)
def zxm (l : List T3) (id : T0) : Option ((Bool)) :=
 (loopC z8d (l, 0, id)).bind fun o =>
 Sum.elim (fun y =>
 some false) (fun y2 =>
 some y2) o
def z1jb : Sig := ⟨94, [.d c10, .d c0], [], 0, z1iy⟩
def z1ez (x : (List T3) × T0) : Option ((Bool)) := zxm x.1 x.2
theorem z1se : FnOK Try.prog z1jb z1ez :=
 fn_ok z1dl (h := (.two .no (.two (.two .no (.over (loopD zda.xe zdm (loopC z8d)))) .no))) Try.func94 (z0p [.den (.loop (subC (bodyC Try.f94) [1, 0, 1, 0, 0])) (loopD zda.xe zdm (loopC z8d))] (by kernel_rfl) ⟨z19z, trivial⟩) (by kernel_rfl) z1nq (fun x => by kernel_rfl)
def z1uj : Env := ⟨[(entQ z12l zyb), (entQ z1jb z1ez), (entQ zc8 zas), (entQ z9m z7t)], [], []⟩
theorem zrb : EnvsOK Try.prog z1uj := ⟨z0o (z0q z1cw) (z0o (z0q z1se) (z0o (z0q zct) (z0o (z0q z9y) (z0w _)))), z0s _, z0t _⟩
def zrz : Shp := ⟨118, 0, [(0, .d c10), (1, .d c4), (5, .pt 0 r12 [])], [.var 85 (.d c11)]⟩
def zsa : Shp := ⟨118, 0, [(6, .d c10), (7, .d (.int .i64))], []⟩
def zdn : XS := .or (.exit 0) zrz.xe (.one .ret zsa.xe)
theorem z17d : zdn.OK := XS.or_ok (z0c zrz) (XS.one_ok (z0c zsa))
def zdh : Shp := ⟨118, 0, [(0, .d c10), (1, .d c4), (5, .pt 0 r12 []), (8, .d (.int .i64))], [.var 85 (.d c11)]⟩
abbrev zm6 := (List T3) × (List T0) × Int × T3
abbrev zuu := ((List T3) × (List T0) × T3) ⊕ ((List T3) × Int)
def zv1 (l : List T3) (base : List T0) (i : Int) (v : T3) : Option (zm6 ⊕ zuu) :=
 z0u (List.length base) (
 bif ltI i (List.length base : Nat) then
 (idxI base i).bind fun x =>
 (ztb l x).bind fun r =>
 bif neI r.2 0 then
 some (.inr (.inr ([], 2)))
 else
 (idxI base i).bind fun x2 =>
 bif eqI x2.1 0 then
 (idxI base i).bind fun x3 =>
 bif eqI x3.2 0 then
 (idxI base i).bind fun x4 =>
 (zxm l x4).bind fun r2 =>
 bif !r2 then
 some (.inr (.inr ([], 2)))
 else
 some (.inl (l, base, W64 (i + 1), v))
 else
 some (.inl (l, base, W64 (i + 1), v))
 else
 some (.inl (l, base, W64 (i + 1), v))
 else
 some (.inr (.inl (l, base, v))))
def z8i (s : zm6) : Option (zm6 ⊕ zuu) := zv1 s.1 s.2.1 s.2.2.1 s.2.2.2
theorem z19x : SoundD Try.prog (.loop (subC (bodyC Try.f79) [1, 0, 1, 0, 0])) (loopD zdh.xe zdn (loopC z8i)) :=
 z0v (S := zdh.xe) (X := zdn) zrb (h := .no) (z0p [] (by kernel_rfl) trivial) (z0c zdh) z17d z8i (fun s => by kernel_rfl)
def ze8 : Shp := ⟨118, 0, [(0, .d c10), (1, .d c4), (5, .pt 0 r12 []), (11, .wn 1 c11), (12, .d .bool), (13, .d (.int .i64))], [.var 85 (.d c11), .row 85 c11]⟩
def zan : XS := .one .normal ze8.xe
theorem zmr : zan.OK := XS.one_ok (z0c ze8)
def zde : Shp := ⟨118, 0, [(0, .d c10), (1, .d c4), (5, .pt 0 r12 []), (11, .wn 1 c11), (12, .d .bool), (13, .d (.int .i64)), (79, .d .bool)], [.var 85 (.d c11), .row 85 c11]⟩
def z9i : XS := .one .normal zde.xe
theorem zlo : z9i.OK := XS.one_ok (z0c zde)
def za0 : Shp := ⟨118, 0, [(0, .d c10), (1, .d c4), (5, .pt 0 r12 []), (11, .wn 1 c11), (12, .d .bool), (13, .d (.int .i64)), (14, .pt 2 r12 [])], [.var 85 (.d c11), .row 85 c11, .var 85 (.d c11)]⟩
def z2f : XS := .one (.exit 4) za0.xe
theorem zgb : z2f.OK := XS.one_ok (z0c za0)
def z2e : Shp := ⟨118, 0, [(0, .d c10), (1, .d c4), (5, .pt 0 r12 []), (11, .wn 1 c11), (12, .d .bool), (13, .d (.int .i64)), (14, .pt 2 r12 []), (15, .d (.int .i64))], [.var 85 (.d c11), .row 85 c11, .var 85 (.d c11)]⟩
abbrev z5j := (List T3) × (List T0) × Bool × Int × Int × T3 × (List T3) × T3
abbrev zat := ((List T3) × (List T0) × Bool × Int × T3 × (List T3) × T3)
def zau (l : List T3) (base : List T0) (put : Bool) (i : Int) (k : Int) (v : T3) (out : List T3) (x : T3) : Option (z5j ⊕ zat) :=
 z0u (List.length base) (
 bif ltI k (List.length base : Nat) then
 (idxI base k).bind fun x2 =>
 bif eqU c0 x2 x.1 then
 (za3 x.2.2 v.1).bind fun r =>
 bif Nat.beq (List.length out) (List.length out) then
 some (.inl (l, base, put, i, W64 (k + 1), v, out, (x.1, x.2.1, r)))
 else none
 else
 bif Nat.beq (List.length out) (List.length out) then
 some (.inl (l, base, put, i, W64 (k + 1), v, out, x))
 else none
 else
 bif Nat.beq (List.length out) (List.length out) then
 some (.inr (l, base, put, i, v, out, x))
 else none)
def z1j (s : z5j) : Option (z5j ⊕ zat) := zau s.1 s.2.1 s.2.2.1 s.2.2.2.1 s.2.2.2.2.1 s.2.2.2.2.2.1 s.2.2.2.2.2.2.1 s.2.2.2.2.2.2.2
theorem zgq : SoundD Try.prog (.loop (subC (bodyC Try.f79) [1, 1, 1, 1, 1, 0, 1, 0, 0, 1, 0, 0, 1, 1, 0, 1, 0, 0])) (loopD z2e.xe z2f (loopC z1j)) :=
 z0v (S := z2e.xe) (X := z2f) zrb (h := .no) (z0p [] (by kernel_rfl) trivial) (z0c z2e) zgb z1j (fun s => by kernel_rfl)
def zj5 : Shp := ⟨118, 0, [(5, .pt 0 r12 []), (11, .wn 1 c11), (12, .d .bool)], [.var 85 (.d c11), .row 85 c11]⟩
def z6z : XS := .one (.exit 2) zj5.xe
theorem zth : z6z.OK := XS.one_ok (z0c zj5)
def z6w : Shp := ⟨118, 0, [(0, .d c10), (1, .d c4), (5, .pt 0 r12 []), (11, .wn 1 c11), (12, .d .bool), (13, .d (.int .i64))], [.var 85 (.d c11), .row 85 c11]⟩
abbrev ze7 := (List T3) × (List T0) × Bool × Int × T3 × (List T3)
abbrev zk5 := (Bool × T3 × (List T3))
def ze3 (l : List T3) (base : List T0) (put : Bool) (i : Int) (v : T3) (out : List T3) : Option (ze7 ⊕ zk5) :=
 z0u (List.length l) (
 bif ltI i (List.length l : Nat) then
 (show Option (((List T3) × (List T0) × Bool × Int × T3 × (List T3))) from
 (show Option (((List T3) × (List T0) × Bool × Int × Bool × T3 × (List T3))) from
 bif !put then
 (idxI l i).bind fun x =>
 (zbp v.1 x.1).bind fun r =>
 bif Nat.beq (List.length out) (List.length out) then
 some (l, base, put, i, r, v, out)
 else none
 else
 bif Nat.beq (List.length out) (List.length out) then
 some (l, base, put, i, false, v, out)
 else none).bind fun j =>
 bif j.2.2.2.2.1 then
 bif Nat.beq (List.length j.2.2.2.2.2.2) (List.length j.2.2.2.2.2.2) then
 appG (List.length j.2.2.2.2.2.2) (List.length ([j.2.2.2.2.2.1] : List T3)) 64 fun _ =>
 bif Nat.beq (List.length (j.2.2.2.2.2.2 ++ ([j.2.2.2.2.2.1] : List T3))) (List.length (j.2.2.2.2.2.2 ++ ([j.2.2.2.2.2.1] : List T3))) then
 some (j.1, j.2.1, true, j.2.2.2.1, j.2.2.2.2.2.1, j.2.2.2.2.2.2 ++ ([j.2.2.2.2.2.1] : List T3))
 else none
 else none
 else
 bif Nat.beq (List.length j.2.2.2.2.2.2) (List.length j.2.2.2.2.2.2) then
 some (j.1, j.2.1, j.2.2.1, j.2.2.2.1, j.2.2.2.2.2.1, j.2.2.2.2.2.2)
 else none).bind fun j2 =>
 (idxI j2.1 j2.2.2.2.1).bind fun x2 =>
 bif Nat.beq (List.length j2.2.2.2.2.2) (List.length j2.2.2.2.2.2) then
 (loopC z1j (j2.1, j2.2.1, j2.2.2.1, j2.2.2.2.1, 0, j2.2.2.2.2.1, j2.2.2.2.2.2, x2)).bind fun o =>
 bif Nat.beq (List.length o.2.2.2.2.2.1) (List.length o.2.2.2.2.2.1) then
 appG (List.length o.2.2.2.2.2.1) (List.length ([o.2.2.2.2.2.2] : List T3)) 64 fun _ =>
 bif Nat.beq (List.length (o.2.2.2.2.2.1 ++ ([o.2.2.2.2.2.2] : List T3))) (List.length (o.2.2.2.2.2.1 ++ ([o.2.2.2.2.2.2] : List T3))) then
 some (.inl (o.1, o.2.1, o.2.2.1, W64 (o.2.2.2.1 + 1), o.2.2.2.2.1, o.2.2.2.2.2.1 ++ ([o.2.2.2.2.2.2] : List T3)))
 else none
 else none
 else none
 else
 bif Nat.beq (List.length out) (List.length out) then
 some (.inr (put, v, out))
 else none)
def z3i (s : ze7) : Option (ze7 ⊕ zk5) := ze3 s.1 s.2.1 s.2.2.1 s.2.2.2.1 s.2.2.2.2.1 s.2.2.2.2.2
theorem zur : SoundD Try.prog (.loop (subC (bodyC Try.f79) [1, 1, 1, 1, 1, 0, 1, 0, 0])) (loopD z6w.xe z6z (loopC z3i)) :=
 z0v (S := z6w.xe) (X := z6z) zrb (h := (.two .no (.two (.join (fun _ => zan) (.join (fun _ => z9i) .no .no) (.two .no (.two (.two .no (.over (loopD z2e.xe z2f (loopC z1j)))) .no))) .no))) (z0p [.xs (fun _ => zan), .xs (fun _ => z9i), .den (.loop (subC (bodyC Try.f79) [1, 1, 1, 1, 1, 0, 1, 0, 0, 1, 0, 0, 1, 1, 0, 1, 0, 0])) (loopD z2e.xe z2f (loopC z1j))] (by kernel_rfl) ⟨(z2k zmr), (z2k zlo), zgq, trivial⟩) (z0c z6w) zth z3i (fun s => by kernel_rfl)
def z1ct : Shp := ⟨1, 0, [(0, .tu [.d c10, .d (.int .i64)])], []⟩
def z1in : XS := .one .ret z1ct.xe
theorem z1ov : z1in.OK := XS.one_ok (z0c z1ct)
def zx3 (l : List T3) (base : List T0) (v : T3) : Option (((List T3) × Int)) :=
 (loopC z8i (l, base, 0, v)).bind fun o =>
 Sum.elim (fun y =>
 (zxm y.1 y.2.2.1).bind fun r =>
 bif r then
 some ([], 11)
 else
 bif Nat.beq 0 (List.length ([] : List T3)) then
 (loopC z3i (y.1, y.2.1, false, 0, y.2.2, ([] : List T3))).bind fun o2 =>
 bif !o2.1 then
 bif Nat.beq (List.length o2.2.2) (List.length o2.2.2) then
 appG (List.length o2.2.2) (List.length ([o2.2.1] : List T3)) 64 fun _ =>
 winK (o2.2.2 ++ ([o2.2.1] : List T3)) 0 (List.length (o2.2.2 ++ ([o2.2.1] : List T3))) fun w =>
 some (w, 0)
 else none
 else
 winK o2.2.2 0 (List.length o2.2.2) fun w2 =>
 some (w2, 0)
 else none) (fun y2 =>
 some (y2.1, y2.2)) o
def z17w : Sig := ⟨79, [.d c10, .d c4, .d c11], [], 0, z1in⟩
def z11q (x : (List T3) × (List T0) × T3) : Option (((List T3) × Int)) := zx3 x.1 x.2.1 x.2.2
theorem z1gg : FnOK Try.prog z17w z11q :=
 fn_ok zrb (h := (.two .no (.two (.two .no (.over (loopD zdh.xe zdn (loopC z8i)))) (.two .no (.two .no (.two .no (.two (.two .no (.over (loopD z6w.xe z6z (loopC z3i)))) .no))))))) Try.func79 (z0p [.den (.loop (subC (bodyC Try.f79) [1, 0, 1, 0, 0])) (loopD zdh.xe zdn (loopC z8i)), .den (.loop (subC (bodyC Try.f79) [1, 1, 1, 1, 1, 0, 1, 0, 0])) (loopD z6w.xe z6z (loopC z3i))] (by kernel_rfl) ⟨z19x, zur, trivial⟩) (by kernel_rfl) z1ov (fun x => by kernel_rfl)
def z1kj : Env := ⟨[(entQ zvc zuf), (entQ zlt zok), (entQ zuj zpu), (entQ z9m z7t), (entQ z17w z11q)], [], []⟩
theorem zmx : EnvsOK Try.prog z1kj := ⟨z0o (z0q z14y) (z0o (z0q z19a) (z0o (z0q zwa) (z0o (z0q z9y) (z0o (z0q z1gg) (z0w _))))), z0s _, z0t _⟩
def z7m : Shp := ⟨89, 0, [(0, .d c3), (3, .pt 0 r2 []), (5, .d c10), (6, .d (.int .i64)), (7, .pt 1 r12 []), (8, .d (.int .i64)), (22, .d c3), (23, .d (.int .i64)), (24, .rf (.d c9)), (25, .rf (.d c0)), (26, .d c0), (27, .d c0), (28, .d .bool), (72, .d .bool)], [.var 43 (.d c0), .var 85 (.d c11)]⟩
def z3v : XS := .one .normal z7m.xe
theorem ze4 : z3v.OK := XS.one_ok (z0c z7m)
def zab : Shp := ⟨89, 0, [(0, .d c3), (3, .pt 0 r2 []), (5, .d c10), (6, .d (.int .i64)), (7, .pt 1 r12 []), (22, .d c3), (23, .d (.int .i64)), (24, .rf (.d c9)), (25, .rf (.d c0)), (26, .d c0), (27, .d c0), (28, .d .bool)], [.var 43 (.d c0), .var 85 (.d c11)]⟩
def z2i : XS := .one (.exit 2) zab.xe
theorem zgp : z2i.OK := XS.one_ok (z0c zab)
def z2j : Shp := ⟨89, 0, [(0, .d c3), (3, .pt 0 r2 []), (5, .d c10), (6, .d (.int .i64)), (7, .pt 1 r12 []), (8, .d (.int .i64)), (22, .d c3), (23, .d (.int .i64)), (24, .rf (.d c9)), (25, .rf (.d c0)), (26, .d c0), (27, .d c0), (28, .d .bool)], [.var 43 (.d c0), .var 85 (.d c11)]⟩
abbrev z5q := (List T1) × (List T3) × Int × Int × (List T1) × Int × T1 × T0 × T0 × T0 × Bool × T0 × T3
abbrev zbe := ((List T1) × (List T3) × Int × (List T1) × Int × T1 × T0 × T0 × T0 × Bool × T0 × T3)
def z5r (l : List T1) (out : List T3) (i : Int) (k : Int) (t22 : List T1) (t23 : Int) (t24 : T1) (t25 : T0) (t26 : T0) (t27 : T0) (t28 : Bool) (obj : T0) (v : T3) : Option (z5q ⊕ zbe) :=
 z0u (List.length l) (
 bif ltI k (List.length l : Nat) then
 (show Option (((List T1) × (List T3) × Int × Int × (List T1) × Int × T1 × T0 × T0 × T0 × Bool × Bool × T0 × T3)) from
 (idxI l k).bind fun x =>
 (zg9 x).bind fun r =>
 bif r then
 (idxI l k).bind fun x2 =>
 bif eqU c0 x2.2.2.2.1 obj then
 (idxI l k).bind fun x3 =>
 (ziz x3.2.2.2.2.2.2.2.1 v.1).bind fun r2 =>
 some (l, out, i, k, t22, t23, t24, t25, t26, t27, t28, r2, obj, v)
 else
 some (l, out, i, k, t22, t23, t24, t25, t26, t27, t28, false, obj, v)
 else
 some (l, out, i, k, t22, t23, t24, t25, t26, t27, t28, false, obj, v)).bind fun j =>
 bif j.2.2.2.2.2.2.2.2.2.2.2.1 then
 (idxI j.1 j.2.2.2.1).bind fun x4 =>
 (za3 j.2.2.2.2.2.2.2.2.2.2.2.2.2.2.2 x4.1).bind fun r3 =>
 some (.inl (j.1, j.2.1, j.2.2.1, W64 (j.2.2.2.1 + 1), j.2.2.2.2.1, j.2.2.2.2.2.1, j.2.2.2.2.2.2.1, j.2.2.2.2.2.2.2.1, j.2.2.2.2.2.2.2.2.1, j.2.2.2.2.2.2.2.2.2.1, j.2.2.2.2.2.2.2.2.2.2.1, j.2.2.2.2.2.2.2.2.2.2.2.2.1, (j.2.2.2.2.2.2.2.2.2.2.2.2.2.1, j.2.2.2.2.2.2.2.2.2.2.2.2.2.2.1, r3)))
 else
 some (.inl (j.1, j.2.1, j.2.2.1, W64 (j.2.2.2.1 + 1), j.2.2.2.2.1, j.2.2.2.2.2.1, j.2.2.2.2.2.2.1, j.2.2.2.2.2.2.2.1, j.2.2.2.2.2.2.2.2.1, j.2.2.2.2.2.2.2.2.2.1, j.2.2.2.2.2.2.2.2.2.2.1, j.2.2.2.2.2.2.2.2.2.2.2.2.1, j.2.2.2.2.2.2.2.2.2.2.2.2.2))
 else
 some (.inr (l, out, i, t22, t23, t24, t25, t26, t27, t28, obj, v)))
def z1g (s : z5q) : Option (z5q ⊕ zbe) := z5r s.1 s.2.1 s.2.2.1 s.2.2.2.1 s.2.2.2.2.1 s.2.2.2.2.2.1 s.2.2.2.2.2.2.1 s.2.2.2.2.2.2.2.1 s.2.2.2.2.2.2.2.2.1 s.2.2.2.2.2.2.2.2.2.1 s.2.2.2.2.2.2.2.2.2.2.1 s.2.2.2.2.2.2.2.2.2.2.2.1 s.2.2.2.2.2.2.2.2.2.2.2.2
theorem zgy : SoundD Try.prog (.loop (subC (bodyC Try.f55) [1, 1, 0, 1, 0, 0, 1, 0, 0, 1, 1, 0, 1, 0, 0])) (loopD z2j.xe z2i (loopC z1g)) :=
 z0v (S := z2j.xe) (X := z2i) zmx (h := (.two .no (.two (.join (fun _ => z3v) .no .no) .no))) (z0p [.xs (fun _ => z3v)] (by kernel_rfl) ⟨(z2k ze4), trivial⟩) (z0c z2j) zgp z1g (fun s => by kernel_rfl)
def zj9 : Shp := ⟨89, 0, [(5, .d c10)], []⟩
def z7n : XS := .one (.exit 0) zj9.xe
theorem zun : z7n.OK := XS.one_ok (z0c zj9)
def z7s : Shp := ⟨89, 0, [(0, .d c3), (3, .pt 0 r2 []), (5, .d c10), (6, .d (.int .i64))], [.var 43 (.d c0)]⟩
abbrev zf0 := (List T1) × (List T3) × Int × T0
abbrev zlr := ((List T3))
def zf1 (l : List T1) (out : List T3) (i : Int) (obj : T0) : Option (zf0 ⊕ zlr) :=
 z0u (List.length l) (
 bif ltI i (List.length l : Nat) then
 (idxI l i).bind fun x =>
 (zg9 x).bind fun r =>
 bif !r then
 some (.inl (l, out, W64 (i + 1), obj))
 else
 (idxI l i).bind fun x2 =>
 bif !(eqU c0 x2.2.2.2.1 obj) then
 some (.inl (l, out, W64 (i + 1), obj))
 else
 (idxI l i).bind fun x3 =>
 (idxI l i).bind fun x4 =>
 (z18a l x4.1).bind fun r2 =>
 (loopC z1g (l, out, i, 0, l, i, x2, x2.2.2.2.1, x2.2.2.2.1, obj, !(eqU c0 x2.2.2.2.1 obj), obj, (x3.1, r2, List.replicate 8 (0 : Int)))).bind fun o =>
 (zx3 o.2.1 [] o.2.2.2.2.2.2.2.2.2.2.2).bind fun r3 =>
 some (.inl (o.1, r3.1, W64 (o.2.2.1 + 1), o.2.2.2.2.2.2.2.2.2.2.1))
 else
 some (.inr out))
def z3n (s : zf0) : Option (zf0 ⊕ zlr) := zf1 s.1 s.2.1 s.2.2.1 s.2.2.2
theorem zw5 : SoundD Try.prog (.loop (subC (bodyC Try.f55) [1, 1, 0, 1, 0, 0])) (loopD z7s.xe z7n (loopC z3n)) :=
 z0v (S := z7s.xe) (X := z7n) zmx (h := (.two .no (.two (.two .no (.two .no (.two (.two .no (.over (loopD z2j.xe z2i (loopC z1g)))) .no))) .no))) (z0p [.den (.loop (subC (bodyC Try.f55) [1, 1, 0, 1, 0, 0, 1, 0, 0, 1, 1, 0, 1, 0, 0])) (loopD z2j.xe z2i (loopC z1g))] (by kernel_rfl) ⟨zgy, trivial⟩) (z0c z7s) zun z3n (fun s => by kernel_rfl)
def zwp : Shp := ⟨1, 0, [(0, .d c10)], []⟩
def z10x : XS := .one .ret zwp.xe
theorem z1e6 : z10x.OK := XS.one_ok (z0c zwp)
def zoj (l : List T1) (obj : T0) : Option (((List T3))) :=
 (loopC z3n (l, [], 0, obj)).bind fun o =>
 some o
def z11z : Sig := ⟨55, [.d c3, .d c0], [], 0, z10x⟩
def zz4 (x : (List T1) × T0) : Option (((List T3))) := zoj x.1 x.2
theorem z1ht : FnOK Try.prog z11z zz4 :=
 fn_ok zmx (h := (.two .no (.two .no (.two (.two .no (.over (loopD z7s.xe z7n (loopC z3n)))) .no)))) Try.func55 (z0p [.den (.loop (subC (bodyC Try.f55) [1, 1, 0, 1, 0, 0])) (loopD z7s.xe z7n (loopC z3n))] (by kernel_rfl) ⟨zw5, trivial⟩) (by kernel_rfl) z1e6 (fun x => by kernel_rfl)
def z1ob : Env := ⟨[(entQ z11z zz4), (entQ zc8 zas), (entQ z9m z7t), (entQ zms zlq)], [], []⟩
theorem z12o : EnvsOK Try.prog z1ob := ⟨z0o (z0q z1ht) (z0o (z0q zct) (z0o (z0q z9y) (z0o (z0q zra) (z0w _)))), z0s _, z0t _⟩
def zes : Shp := ⟨85, 0, [(0, .d c3), (3, .pt 0 r8 []), (4, .pt 1 r13 []), (5, .pt 2 r13 []), (6, .d (.int .i64))], [.var 67 (.d c9), .var 49 (.d c14), .var 49 (.d c14)]⟩
def zba : XS := .one .normal zes.xe
theorem zng : zba.OK := XS.one_ok (z0c zes)
def ze0 : Shp := ⟨85, 0, [(0, .d c3), (3, .pt 0 r8 []), (4, .pt 1 r13 []), (5, .pt 2 r13 []), (6, .d (.int .i64)), (50, .d .bool)], [.var 67 (.d c9), .var 49 (.d c14), .var 49 (.d c14)]⟩
def za6 : XS := .one .normal ze0.xe
theorem zlz : za6.OK := XS.one_ok (z0c ze0)
def zlm : Shp := ⟨85, 0, [(4, .pt 0 r13 []), (5, .pt 1 r13 [])], [.var 49 (.d c14), .var 49 (.d c14)]⟩
def z9v : XS := .one (.exit 0) zlm.xe
theorem zx4 : z9v.OK := XS.one_ok (z0c zlm)
def z9h : Shp := ⟨85, 0, [(0, .d c3), (3, .pt 0 r8 []), (4, .pt 1 r13 []), (5, .pt 2 r13 []), (6, .d (.int .i64))], [.var 67 (.d c9), .var 49 (.d c14), .var 49 (.d c14)]⟩
abbrev zga := (List T1) × Int × T1 × T4 × T4
abbrev znw := (T4 × T4)
def zgc (l : List T1) (i : Int) (t3 : T1) (t4 : T4) (o : T4) : Option (zga ⊕ znw) :=
 z0u (List.length l) (
 bif ltI i (List.length l : Nat) then
 (idxI l i).bind fun x =>
 bif !(eqU c0 x.2.2.2.1 t3.1) then
 some (.inl (l, W64 (i + 1), t3, t4, o))
 else
 (show Option (((List T1) × Int × T1 × T4 × T4)) from
 (show Option (((List T1) × Int × Bool × T1 × T4 × T4)) from
 (idxI l i).bind fun x2 =>
 bif eqI x2.2.2.1 7 then
 (idxI l i).bind fun x3 =>
 (zbp o.2.2.1 x3.1).bind fun r =>
 some (l, i, r, t3, t4, o)
 else
 some (l, i, false, t3, t4, o)).bind fun j =>
 bif j.2.2.1 then
 (idxI j.1 j.2.1).bind fun x4 =>
 (idxI j.1 j.2.1).bind fun x5 =>
 some (j.1, j.2.1, j.2.2.2.1, j.2.2.2.2.1, ((j.2.2.2.2.2.1, j.2.2.2.2.2.2.1, x4.1, j.2.2.2.2.2.2.2.2).1, (j.2.2.2.2.2.1, j.2.2.2.2.2.2.1, x4.1, j.2.2.2.2.2.2.2.2).2.1, (j.2.2.2.2.2.1, j.2.2.2.2.2.2.1, x4.1, j.2.2.2.2.2.2.2.2).2.2.1, x5.2.2.2.2.2.1, (j.2.2.2.2.2.1, j.2.2.2.2.2.2.1, x4.1, j.2.2.2.2.2.2.2.2).2.2.2.2))
 else
 some (j.1, j.2.1, j.2.2.2.1, j.2.2.2.2.1, j.2.2.2.2.2)).bind fun j2 =>
 (idxI j2.1 j2.2.1).bind fun x6 =>
 bif eqI x6.2.2.1 6 then
 (idxI j2.1 j2.2.1).bind fun x7 =>
 (idxI j2.1 j2.2.1).bind fun x8 =>
 (za3 x7.2.1 x8.1).bind fun r2 =>
 (zkn j2.2.2.2.2.2.2.2.2.1 r2).bind fun r3 =>
 some (.inl (j2.1, W64 (j2.2.1 + 1), j2.2.2.1, j2.2.2.2.1, (j2.2.2.2.2.1, j2.2.2.2.2.2.1, j2.2.2.2.2.2.2.1, j2.2.2.2.2.2.2.2.1, r3, j2.2.2.2.2.2.2.2.2.2)))
 else
 some (.inl (j2.1, W64 (j2.2.1 + 1), j2.2.2.1, j2.2.2.2.1, j2.2.2.2.2))
 else
 some (.inr (t4, o)))
def z4s (s : zga) : Option (zga ⊕ znw) := zgc s.1 s.2.1 s.2.2.1 s.2.2.2.1 s.2.2.2.2
theorem zya : SoundD Try.prog (.loop (subC (bodyC Try.f30) [1, 1, 0, 1, 0, 0])) (loopD z9h.xe z9v (loopC z4s)) :=
 z0v (S := z9h.xe) (X := z9v) z12o (h := (.two .no (.two (.two .no (.join (fun _ => zba) (.join (fun _ => za6) .no .no) .no)) .no))) (z0p [.xs (fun _ => zba), .xs (fun _ => za6)] (by kernel_rfl) ⟨(z2k zng), (z2k zlz), trivial⟩) (z0c z9h) zx4 z4s (fun s => by kernel_rfl)
def z12w : Shp := ⟨1, 0, [(0, .d c14)], []⟩
def z1a0 : XS := .one .ret z12w.xe
theorem z1i3 : z1a0.OK := XS.one_ok (z0c z12w)
def zub (l : List T1) (t1 : T1) : Option ((T4)) :=
 (zoj l t1.1).bind fun r =>
 (loopC z4s (l, 0, t1, ((0, 0), false, (0, 0), [], List.replicate 8 (0 : Int), []), (t1.1, eqI t1.2.2.1 2, t1.1, t1.2.2.2.2.2.1, List.replicate 8 (0 : Int), r))).bind fun o =>
 some o.2
def z19u : Sig := ⟨30, [.d c3, .d c9], [], 0, z1a0⟩
def z15v (x : (List T1) × T1) : Option ((T4)) := zub x.1 x.2
theorem z1mh : FnOK Try.prog z19u z15v :=
 fn_ok z12o (h := (.two .no (.two .no (.two (.two .no (.over (loopD z9h.xe z9v (loopC z4s)))) .no)))) Try.func30 (z0p [.den (.loop (subC (bodyC Try.f30) [1, 1, 0, 1, 0, 0])) (loopD z9h.xe z9v (loopC z4s))] (by kernel_rfl) ⟨zya, trivial⟩) (by kernel_rfl) z1i3 (fun x => by kernel_rfl)
def z1um : Env := ⟨[], [], []⟩
theorem z1dv : EnvsOK Try.prog z1um := ⟨z0w _, z0s _, z0t _⟩
def zrs : Shp := ⟨17, 0, [], []⟩
def zs9 : Shp := ⟨17, 0, [(4, .d (.int .u32))], []⟩
def zdf : XS := .or (.exit 0) zrs.xe (.one .ret zs9.xe)
theorem z18d : zdf.OK := XS.or_ok (z0c zrs) (XS.one_ok (z0c zs9))
def zdj : Shp := ⟨17, 0, [(1, .d (.int .i64)), (2, .pt 0 (.one (.arr 8 .leaf)) []), (5, .d (.int .i64))], [.var 25 (.d c1)]⟩
abbrev zm4 := Int × Int × (List Int)
abbrev zv5 := (Unit) ⊕ (Int)
def zm1 (rep : Int) (i : Int) (v : List Int) : Option (zm4 ⊕ zv5) :=
 bif ltI i 8 then
 bif eqI (W64 (i + 1)) rep then
 bif inI i 8 then
 (v[i.toNat]?).bind fun x =>
 some (.inr (.inr x))
 else none
 else
 some (.inl (rep, W64 (i + 1), v))
 else
 some (.inr (.inl ()))
def z8b (s : zm4) : Option (zm4 ⊕ zv5) := zm1 s.1 s.2.1 s.2.2
theorem z1al : SoundD Try.prog (.loop (subC (bodyC Try.f32) [1, 0, 1, 0, 0])) (loopD zdj.xe zdf (loopC z8b)) :=
 z0v (S := zdj.xe) (X := zdf) z1dv (h := .no) (z0p [] (by kernel_rfl) trivial) (z0c zdj) z18d z8b (fun s => by kernel_rfl)
def z1cy : Shp := ⟨1, 0, [(0, .d (.int .u32))], []⟩
def z1it : XS := .one .ret z1cy.xe
theorem z1nr : z1it.OK := XS.one_ok (z0c z1cy)
def zoc (v : List Int) (rep : Int) : Option ((Int)) :=
 (loopC z8b (rep, 0, v)).bind fun o =>
 Sum.elim (fun y =>
 some 0) (fun y2 =>
 some y2) o
def zqs : Sig := ⟨32, [.d c1, .d (.int .i64)], [], 0, z1it⟩
def zna (x : (List Int) × Int) : Option ((Int)) := zoc x.1 x.2
theorem ztl : FnOK Try.prog zqs zna :=
 fn_ok z1dv (h := (.two .no (.two (.two .no (.over (loopD zdj.xe zdf (loopC z8b)))) .no))) Try.func32 (z0p [.den (.loop (subC (bodyC Try.f32) [1, 0, 1, 0, 0])) (loopD zdj.xe zdf (loopC z8b))] (by kernel_rfl) ⟨z1al, trivial⟩) (by kernel_rfl) z1nr (fun x => by kernel_rfl)
def z1qs : Env := ⟨[(entQ zxw zve), (entQ z15t z13k), (entQ z19u z15v), (entQ zc8 zas), (entQ zqs zna), (entQ z9m z7t)], [], []⟩
theorem zsv : EnvsOK Try.prog z1qs := ⟨z0o (z0q z1a6) (z0o (z0q z1k5) (z0o (z0q z1mh) (z0o (z0q zct) (z0o (z0q ztl) (z0o (z0q z9y) (z0w _)))))), z0s _, z0t _⟩
def zem : Shp := ⟨108, 0, [(0, .d c3), (2, .pt 0 r15 []), (3, .pt 1 r15 []), (4, .pt 2 (.one (.arr 8 .leaf)) []), (5, .d (.int .i64)), (6, .pt 3 r8 [])], [.var 33 (.ag [.d c1, .wn 4 c14, .wn 5 c6, .d c16, .d (.arr 8 .bool)]), .var 33 (.ag [.d c1, .wn 6 c14, .d c5, .d c16, .d (.arr 8 .bool)]), .var 25 (.d c1), .var 67 (.d c9), .row 49 c14, .row 45 c6, .row 49 c14]⟩
def zaq : XS := .one .normal zem.xe
theorem zmp : zaq.OK := XS.one_ok (z0c zem)
def zdg : Shp := ⟨108, 0, [(0, .d c3), (2, .pt 0 r15 []), (3, .pt 1 r15 []), (4, .pt 2 (.one (.arr 8 .leaf)) []), (5, .d (.int .i64)), (6, .pt 3 r8 []), (33, .d .bool)], [.var 33 (.ag [.d c1, .wn 4 c14, .wn 5 c6, .d c16, .d (.arr 8 .bool)]), .var 33 (.ag [.d c1, .wn 6 c14, .d c5, .d c16, .d (.arr 8 .bool)]), .var 25 (.d c1), .var 67 (.d c9), .row 49 c14, .row 45 c6, .row 49 c14]⟩
def z9g : XS := .one .normal zdg.xe
theorem zll : z9g.OK := XS.one_ok (z0c zdg)
def z7z : Shp := ⟨108, 0, [(0, .d c3), (2, .pt 0 r15 []), (3, .pt 1 r15 []), (4, .pt 2 (.one (.arr 8 .leaf)) []), (5, .d (.int .i64)), (6, .pt 3 r8 []), (7, .pt 4 r13 []), (8, .d (.int .i64))], [.var 33 (.ag [.d c1, .wn 5 c14, .wn 6 c6, .d c16, .d (.arr 8 .bool)]), .var 33 (.ag [.d c1, .wn 7 c14, .d c5, .d c16, .d (.arr 8 .bool)]), .var 25 (.d c1), .var 67 (.d c9), .var 49 (.d c14), .row 49 c14, .row 45 c6, .row 49 c14]⟩
def z1v : XS := .one (.exit 2) z7z.xe
theorem zey : z1v.OK := XS.one_ok (z0c z7z)
def z1u : Shp := ⟨108, 0, [(0, .d c3), (2, .pt 0 r15 []), (3, .pt 1 r15 []), (4, .pt 2 (.one (.arr 8 .leaf)) []), (5, .d (.int .i64)), (6, .pt 3 r8 []), (7, .pt 4 r13 []), (8, .d (.int .i64))], [.var 33 (.ag [.d c1, .wn 5 c14, .wn 6 c6, .d c16, .d (.arr 8 .bool)]), .var 33 (.ag [.d c1, .wn 7 c14, .d c5, .d c16, .d (.arr 8 .bool)]), .var 25 (.d c1), .var 67 (.d c9), .var 49 (.d c14), .row 49 c14, .row 45 c6, .row 49 c14]⟩
abbrev z4n := (List T1) × Int × Int × (List Int) × (List Int) × (List Bool) × (List Int) × (List T2) × (List Int) × (List Bool) × (List Int) × T1 × T4 × (List T4) × (List T2) × (List T4)
abbrev z9b := ((List T1) × Int × Int × (List Int) × (List Int) × (List Bool) × (List Int) × (List T2) × (List Int) × (List Bool) × (List Int) × T1 × T4 × (List T4) × (List T2) × (List T4))
def z4q (l : List T1) (i : Int) (k : Int) (t2 : List Int) (t22 : List Int) (t23 : List Bool) (t3 : List Int) (t32 : List T2) (t33 : List Int) (t34 : List Bool) (latest : List Int) (t6 : T1) (o : T4) (t24 : List T4) (t25 : List T2) (t35 : List T4) : Option (z4n ⊕ z9b) :=
 bif ltI 0 k then
 bif inI (W64 (k - 1)) (List.length t35) then
 (t35[(W64 (k - 1)).toNat]?).bind fun x =>
 (zbp o.1 x.1).bind fun r =>
 bif r then
 bif Nat.beq (List.length t24) (List.length t24) then
 bif Nat.beq (List.length t25) (List.length t25) then
 bif Nat.beq (List.length t35) (List.length t35) then
 some (.inl (l, i, W64 (k - 1), t2, t22, t23, t3, t32, t33, t34, latest, t6, o, t24, t25, t35))
 else none
 else none
 else none
 else
 bif Nat.beq (List.length t24) (List.length t24) then
 bif Nat.beq (List.length t25) (List.length t25) then
 bif Nat.beq (List.length t35) (List.length t35) then
 some (.inr (l, i, k, t2, t22, t23, t3, t32, t33, t34, latest, t6, o, t24, t25, t35))
 else none
 else none
 else none
 else none
 else
 bif Nat.beq (List.length t24) (List.length t24) then
 bif Nat.beq (List.length t25) (List.length t25) then
 bif Nat.beq (List.length t35) (List.length t35) then
 some (.inr (l, i, k, t2, t22, t23, t3, t32, t33, t34, latest, t6, o, t24, t25, t35))
 else none
 else none
 else none
def z1c (s : z4n) : Option (z4n ⊕ z9b) := z4q s.1 s.2.1 s.2.2.1 s.2.2.2.1 s.2.2.2.2.1 s.2.2.2.2.2.1 s.2.2.2.2.2.2.1 s.2.2.2.2.2.2.2.1 s.2.2.2.2.2.2.2.2.1 s.2.2.2.2.2.2.2.2.2.1 s.2.2.2.2.2.2.2.2.2.2.1 s.2.2.2.2.2.2.2.2.2.2.2.1 s.2.2.2.2.2.2.2.2.2.2.2.2.1 s.2.2.2.2.2.2.2.2.2.2.2.2.2.1 s.2.2.2.2.2.2.2.2.2.2.2.2.2.2.1 s.2.2.2.2.2.2.2.2.2.2.2.2.2.2.2
theorem zfc : SoundD Try.prog (.loop (subC (bodyC Try.f10) [1, 1, 1, 0, 1, 0, 0, 1, 0, 0, 1, 0, 1, 0, 1, 1, 0, 0, 0])) (loopD z1u.xe z1v (loopC z1c)) :=
 z0v (S := z1u.xe) (X := z1v) zsv (h := .no) (z0p [] (by kernel_rfl) trivial) (z0c z1u) zey z1c (fun s => by kernel_rfl)
def zdl : Shp := ⟨108, 0, [(0, .d c3), (2, .pt 0 r15 []), (3, .pt 1 r15 []), (4, .pt 2 (.one (.arr 8 .leaf)) []), (5, .d (.int .i64)), (6, .pt 3 r8 [])], [.var 33 (.ag [.d c1, .wn 4 c14, .wn 5 c6, .d c16, .d (.arr 8 .bool)]), .var 33 (.ag [.d c1, .wn 6 c14, .d c5, .d c16, .d (.arr 8 .bool)]), .var 25 (.d c1), .var 67 (.d c9), .row 49 c14, .row 45 c6, .row 49 c14]⟩
def z9p : XS := .one .normal zdl.xe
theorem zlf : z9p.OK := XS.one_ok (z0c zdl)
def zcp : Shp := ⟨108, 0, [(0, .d c3), (2, .pt 0 r15 []), (3, .pt 1 r15 []), (4, .pt 2 (.one (.arr 8 .leaf)) []), (5, .d (.int .i64)), (6, .pt 3 r8 []), (85, .d .bool)], [.var 33 (.ag [.d c1, .wn 4 c14, .wn 5 c6, .d c16, .d (.arr 8 .bool)]), .var 33 (.ag [.d c1, .wn 6 c14, .d c5, .d c16, .d (.arr 8 .bool)]), .var 25 (.d c1), .var 67 (.d c9), .row 49 c14, .row 45 c6, .row 49 c14]⟩
def z8e : XS := .one .normal zcp.xe
theorem zk1 : z8e.OK := XS.one_ok (z0c zcp)
def zka : Shp := ⟨108, 0, [(2, .pt 0 r15 []), (3, .pt 1 r15 [])], [.var 33 (.ag [.d c1, .wn 2 c14, .wn 3 c6, .d c16, .d (.arr 8 .bool)]), .var 33 (.ag [.d c1, .wn 4 c14, .d c5, .d c16, .d (.arr 8 .bool)]), .row 49 c14, .row 45 c6, .row 49 c14]⟩
def z8j : XS := .one (.exit 0) zka.xe
theorem zw2 : z8j.OK := XS.one_ok (z0c zka)
def z8l : Shp := ⟨108, 0, [(0, .d c3), (2, .pt 0 r15 []), (3, .pt 1 r15 []), (4, .pt 2 (.one (.arr 8 .leaf)) []), (5, .d (.int .i64))], [.var 33 (.ag [.d c1, .wn 3 c14, .wn 4 c6, .d c16, .d (.arr 8 .bool)]), .var 33 (.ag [.d c1, .wn 5 c14, .d c5, .d c16, .d (.arr 8 .bool)]), .var 25 (.d c1), .row 49 c14, .row 45 c6, .row 49 c14]⟩
abbrev zfk := (List T1) × Int × (List Int) × (List Int) × (List Bool) × (List Int) × (List T2) × (List Int) × (List Bool) × (List Int) × (List T4) × (List T2) × (List T4)
abbrev zmj := ((List Int) × (List Int) × (List Bool) × (List Int) × (List T2) × (List Int) × (List Bool) × (List T4) × (List T2) × (List T4))
def zfg (l : List T1) (i : Int) (t2 : List Int) (t22 : List Int) (t23 : List Bool) (t3 : List Int) (t32 : List T2) (t33 : List Int) (t34 : List Bool) (latest : List Int) (t24 : List T4) (t25 : List T2) (t35 : List T4) : Option (zfk ⊕ zmj) :=
 z0u (List.length l) (
 bif ltI i (List.length l : Nat) then
 (idxI l i).bind fun x =>
 (show Option (((List T1) × Int × (List Int) × (List Int) × (List Bool) × (List Int) × (List T2) × (List Int) × (List Bool) × (List Int) × T1 × (List T4) × (List T2) × (List T4))) from
 (show Option (((List T1) × Int × Bool × (List Int) × (List Int) × (List Bool) × (List Int) × (List T2) × (List Int) × (List Bool) × (List Int) × T1 × (List T4) × (List T2) × (List T4))) from
 bif eqI x.2.2.1 1 then
 bif Nat.beq (List.length t24) (List.length t24) then
 bif Nat.beq (List.length t25) (List.length t25) then
 bif Nat.beq (List.length t35) (List.length t35) then
 some (l, i, true, t2, t22, t23, t3, t32, t33, t34, latest, x, t24, t25, t35)
 else none
 else none
 else none
 else
 bif Nat.beq (List.length t24) (List.length t24) then
 bif Nat.beq (List.length t25) (List.length t25) then
 bif Nat.beq (List.length t35) (List.length t35) then
 some (l, i, eqI x.2.2.1 2, t2, t22, t23, t3, t32, t33, t34, latest, x, t24, t25, t35)
 else none
 else none
 else none).bind fun j =>
 bif j.2.2.1 then
 (zub j.1 j.2.2.2.2.2.2.2.2.2.2.2.1).bind fun r =>
 z0u (List.length j.2.2.2.2.2.2.2.2.2.2.2.2.2.2) (
 bif Nat.beq (List.length j.2.2.2.2.2.2.2.2.2.2.2.2.1) (List.length j.2.2.2.2.2.2.2.2.2.2.2.2.1) then
 bif Nat.beq (List.length j.2.2.2.2.2.2.2.2.2.2.2.2.2.1) (List.length j.2.2.2.2.2.2.2.2.2.2.2.2.2.1) then
 bif Nat.beq (List.length j.2.2.2.2.2.2.2.2.2.2.2.2.2.2) (List.length j.2.2.2.2.2.2.2.2.2.2.2.2.2.2) then
 (loopC z1c (j.1, j.2.1, (List.length j.2.2.2.2.2.2.2.2.2.2.2.2.2.2 : Nat), j.2.2.2.1, j.2.2.2.2.1, j.2.2.2.2.2.1, j.2.2.2.2.2.2.1, j.2.2.2.2.2.2.2.1, j.2.2.2.2.2.2.2.2.1, j.2.2.2.2.2.2.2.2.2.1, j.2.2.2.2.2.2.2.2.2.2.1, j.2.2.2.2.2.2.2.2.2.2.2.1, r, j.2.2.2.2.2.2.2.2.2.2.2.2.1, j.2.2.2.2.2.2.2.2.2.2.2.2.2.1, j.2.2.2.2.2.2.2.2.2.2.2.2.2.2)).bind fun o =>
 bif subOk o.2.2.1 (List.length o.2.2.2.2.2.2.2.2.2.2.2.2.2.2.2 : Nat) (List.length o.2.2.2.2.2.2.2.2.2.2.2.2.2.2.2) then
 winK o.2.2.2.2.2.2.2.2.2.2.2.2.2.2.2 o.2.2.1.toNat ((List.length o.2.2.2.2.2.2.2.2.2.2.2.2.2.2.2) - o.2.2.1.toNat) fun w =>
 appG (List.length ([o.2.2.2.2.2.2.2.2.2.2.2.2.1] : List T4)) (List.length w) 112 fun _ =>
 bif subOk 0 o.2.2.1 (List.length o.2.2.2.2.2.2.2.2.2.2.2.2.2.2.2) then
 winK o.2.2.2.2.2.2.2.2.2.2.2.2.2.2.2 0 o.2.2.1.toNat fun w2 =>
 appG (List.length ([] : List T4)) (List.length w2) 112 fun _ =>
 bif Nat.beq (List.length w2) (List.length w2) then
 appG (List.length w2) (List.length (([o.2.2.2.2.2.2.2.2.2.2.2.2.1] : List T4) ++ w)) 112 fun _ =>
 bif Nat.beq (List.length o.2.2.2.2.2.2.2.2.2.2.2.2.2.1) (List.length o.2.2.2.2.2.2.2.2.2.2.2.2.2.1) then
 bif Nat.beq (List.length o.2.2.2.2.2.2.2.2.2.2.2.2.2.2.1) (List.length o.2.2.2.2.2.2.2.2.2.2.2.2.2.2.1) then
 bif Nat.beq (List.length (w2 ++ (([o.2.2.2.2.2.2.2.2.2.2.2.2.1] : List T4) ++ w))) (List.length (w2 ++ (([o.2.2.2.2.2.2.2.2.2.2.2.2.1] : List T4) ++ w))) then
 some (o.1, o.2.1, o.2.2.2.1, o.2.2.2.2.1, o.2.2.2.2.2.1, o.2.2.2.2.2.2.1, o.2.2.2.2.2.2.2.1, o.2.2.2.2.2.2.2.2.1, o.2.2.2.2.2.2.2.2.2.1, o.2.2.2.2.2.2.2.2.2.2.1, o.2.2.2.2.2.2.2.2.2.2.2.1, o.2.2.2.2.2.2.2.2.2.2.2.2.2.1, o.2.2.2.2.2.2.2.2.2.2.2.2.2.2.1, w2 ++ (([o.2.2.2.2.2.2.2.2.2.2.2.2.1] : List T4) ++ w))
 else none
 else none
 else none
 else none
 else none
 else none
 else none
 else none
 else none)
 else
 bif Nat.beq (List.length j.2.2.2.2.2.2.2.2.2.2.2.2.1) (List.length j.2.2.2.2.2.2.2.2.2.2.2.2.1) then
 bif Nat.beq (List.length j.2.2.2.2.2.2.2.2.2.2.2.2.2.1) (List.length j.2.2.2.2.2.2.2.2.2.2.2.2.2.1) then
 bif Nat.beq (List.length j.2.2.2.2.2.2.2.2.2.2.2.2.2.2) (List.length j.2.2.2.2.2.2.2.2.2.2.2.2.2.2) then
 some (j.1, j.2.1, j.2.2.2.1, j.2.2.2.2.1, j.2.2.2.2.2.1, j.2.2.2.2.2.2.1, j.2.2.2.2.2.2.2.1, j.2.2.2.2.2.2.2.2.1, j.2.2.2.2.2.2.2.2.2.1, j.2.2.2.2.2.2.2.2.2.2.1, j.2.2.2.2.2.2.2.2.2.2.2.1, j.2.2.2.2.2.2.2.2.2.2.2.2.1, j.2.2.2.2.2.2.2.2.2.2.2.2.2.1, j.2.2.2.2.2.2.2.2.2.2.2.2.2.2)
 else none
 else none
 else none).bind fun j2 =>
 (show Option (((List T1) × Int × (List Int) × (List Int) × (List Bool) × (List Int) × (List T2) × (List Int) × (List Bool) × (List Int) × T1 × (List T4) × (List T2) × (List T4))) from
 (show Option (((List T1) × Int × Bool × (List Int) × (List Int) × (List Bool) × (List Int) × (List T2) × (List Int) × (List Bool) × (List Int) × T1 × (List T4) × (List T2) × (List T4))) from
 bif eqI j2.2.2.2.2.2.2.2.2.2.2.1.2.2.1 8 then
 (zoc j2.2.2.2.2.2.2.2.2.2.1 j2.2.2.2.2.2.2.2.2.2.2.1.1.1).bind fun r2 =>
 bif Nat.beq (List.length j2.2.2.2.2.2.2.2.2.2.2.2.1) (List.length j2.2.2.2.2.2.2.2.2.2.2.2.1) then
 bif Nat.beq (List.length j2.2.2.2.2.2.2.2.2.2.2.2.2.1) (List.length j2.2.2.2.2.2.2.2.2.2.2.2.2.1) then
 bif Nat.beq (List.length j2.2.2.2.2.2.2.2.2.2.2.2.2.2) (List.length j2.2.2.2.2.2.2.2.2.2.2.2.2.2) then
 some (j2.1, j2.2.1, ltI r2 j2.2.2.2.2.2.2.2.2.2.2.1.1.2, j2.2.2.1, j2.2.2.2.1, j2.2.2.2.2.1, j2.2.2.2.2.2.1, j2.2.2.2.2.2.2.1, j2.2.2.2.2.2.2.2.1, j2.2.2.2.2.2.2.2.2.1, j2.2.2.2.2.2.2.2.2.2.1, j2.2.2.2.2.2.2.2.2.2.2.1, j2.2.2.2.2.2.2.2.2.2.2.2.1, j2.2.2.2.2.2.2.2.2.2.2.2.2.1, j2.2.2.2.2.2.2.2.2.2.2.2.2.2)
 else none
 else none
 else none
 else
 bif Nat.beq (List.length j2.2.2.2.2.2.2.2.2.2.2.2.1) (List.length j2.2.2.2.2.2.2.2.2.2.2.2.1) then
 bif Nat.beq (List.length j2.2.2.2.2.2.2.2.2.2.2.2.2.1) (List.length j2.2.2.2.2.2.2.2.2.2.2.2.2.1) then
 bif Nat.beq (List.length j2.2.2.2.2.2.2.2.2.2.2.2.2.2) (List.length j2.2.2.2.2.2.2.2.2.2.2.2.2.2) then
 some (j2.1, j2.2.1, false, j2.2.2.1, j2.2.2.2.1, j2.2.2.2.2.1, j2.2.2.2.2.2.1, j2.2.2.2.2.2.2.1, j2.2.2.2.2.2.2.2.1, j2.2.2.2.2.2.2.2.2.1, j2.2.2.2.2.2.2.2.2.2.1, j2.2.2.2.2.2.2.2.2.2.2.1, j2.2.2.2.2.2.2.2.2.2.2.2.1, j2.2.2.2.2.2.2.2.2.2.2.2.2.1, j2.2.2.2.2.2.2.2.2.2.2.2.2.2)
 else none
 else none
 else none).bind fun j3 =>
 bif j3.2.2.1 then
 (za3 j3.2.2.2.2.2.2.2.2.2.2.1 j3.2.2.2.2.2.2.2.2.2.2.2.1.1).bind fun r3 =>
 bif inI (W64 (j3.2.2.2.2.2.2.2.2.2.2.2.1.1.1 - 1)) 8 then
 (j3.2.2.2.2.2.2.2.2.1[(W64 (j3.2.2.2.2.2.2.2.2.2.2.2.1.1.1 - 1)).toNat]?).bind fun _x =>
 bif Nat.beq (List.length j3.2.2.2.2.2.2.2.2.2.2.2.2.1) (List.length j3.2.2.2.2.2.2.2.2.2.2.2.2.1) then
 bif Nat.beq (List.length j3.2.2.2.2.2.2.2.2.2.2.2.2.2.1) (List.length j3.2.2.2.2.2.2.2.2.2.2.2.2.2.1) then
 bif Nat.beq (List.length j3.2.2.2.2.2.2.2.2.2.2.2.2.2.2) (List.length j3.2.2.2.2.2.2.2.2.2.2.2.2.2.2) then
 some ((j3.1, j3.2.1, j3.2.2.2.1, j3.2.2.2.2.1, j3.2.2.2.2.2.1, j3.2.2.2.2.2.2.1, j3.2.2.2.2.2.2.2.1, j3.2.2.2.2.2.2.2.2.1.set ((W64 (j3.2.2.2.2.2.2.2.2.2.2.2.1.1.1 - 1)).toNat) j3.2.2.2.2.2.2.2.2.2.2.2.1.2.2.2.2.2.2.2.2.2.2, j3.2.2.2.2.2.2.2.2.2.1, r3, j3.2.2.2.2.2.2.2.2.2.2.2.1, j3.2.2.2.2.2.2.2.2.2.2.2.2.1, j3.2.2.2.2.2.2.2.2.2.2.2.2.2.1, j3.2.2.2.2.2.2.2.2.2.2.2.2.2.2))
 else none
 else none
 else none
 else none
 else
 bif Nat.beq (List.length j3.2.2.2.2.2.2.2.2.2.2.2.2.1) (List.length j3.2.2.2.2.2.2.2.2.2.2.2.2.1) then
 bif Nat.beq (List.length j3.2.2.2.2.2.2.2.2.2.2.2.2.2.1) (List.length j3.2.2.2.2.2.2.2.2.2.2.2.2.2.1) then
 bif Nat.beq (List.length j3.2.2.2.2.2.2.2.2.2.2.2.2.2.2) (List.length j3.2.2.2.2.2.2.2.2.2.2.2.2.2.2) then
 some (j3.1, j3.2.1, j3.2.2.2.1, j3.2.2.2.2.1, j3.2.2.2.2.2.1, j3.2.2.2.2.2.2.1, j3.2.2.2.2.2.2.2.1, j3.2.2.2.2.2.2.2.2.1, j3.2.2.2.2.2.2.2.2.2.1, j3.2.2.2.2.2.2.2.2.2.2.1, j3.2.2.2.2.2.2.2.2.2.2.2.1, j3.2.2.2.2.2.2.2.2.2.2.2.2.1, j3.2.2.2.2.2.2.2.2.2.2.2.2.2.1, j3.2.2.2.2.2.2.2.2.2.2.2.2.2.2)
 else none
 else none
 else none).bind fun j4 =>
 bif eqI j4.2.2.2.2.2.2.2.2.2.2.1.2.2.1 9 then
 bif inI (W64 (j4.2.2.2.2.2.2.2.2.2.2.1.1.1 - 1)) 8 then
 (j4.2.2.2.2.2.2.2.2.1[(W64 (j4.2.2.2.2.2.2.2.2.2.2.1.1.1 - 1)).toNat]?).bind fun _x2 =>
 bif Nat.beq (List.length j4.2.2.2.2.2.2.2.2.2.2.2.1) (List.length j4.2.2.2.2.2.2.2.2.2.2.2.1) then
 bif Nat.beq (List.length j4.2.2.2.2.2.2.2.2.2.2.2.2.1) (List.length j4.2.2.2.2.2.2.2.2.2.2.2.2.1) then
 bif Nat.beq (List.length j4.2.2.2.2.2.2.2.2.2.2.2.2.2) (List.length j4.2.2.2.2.2.2.2.2.2.2.2.2.2) then
 some (.inl ((j4.1, W64 (j4.2.1 + 1), j4.2.2.1, j4.2.2.2.1, j4.2.2.2.2.1, j4.2.2.2.2.2.1, j4.2.2.2.2.2.2.1, j4.2.2.2.2.2.2.2.1, j4.2.2.2.2.2.2.2.2.1.set ((W64 (j4.2.2.2.2.2.2.2.2.2.2.1.1.1 - 1)).toNat) true, j4.2.2.2.2.2.2.2.2.2.1, j4.2.2.2.2.2.2.2.2.2.2.2.1, j4.2.2.2.2.2.2.2.2.2.2.2.2.1, j4.2.2.2.2.2.2.2.2.2.2.2.2.2)))
 else none
 else none
 else none
 else none
 else
 bif Nat.beq (List.length j4.2.2.2.2.2.2.2.2.2.2.2.1) (List.length j4.2.2.2.2.2.2.2.2.2.2.2.1) then
 bif Nat.beq (List.length j4.2.2.2.2.2.2.2.2.2.2.2.2.1) (List.length j4.2.2.2.2.2.2.2.2.2.2.2.2.1) then
 bif Nat.beq (List.length j4.2.2.2.2.2.2.2.2.2.2.2.2.2) (List.length j4.2.2.2.2.2.2.2.2.2.2.2.2.2) then
 some (.inl (j4.1, W64 (j4.2.1 + 1), j4.2.2.1, j4.2.2.2.1, j4.2.2.2.2.1, j4.2.2.2.2.2.1, j4.2.2.2.2.2.2.1, j4.2.2.2.2.2.2.2.1, j4.2.2.2.2.2.2.2.2.1, j4.2.2.2.2.2.2.2.2.2.1, j4.2.2.2.2.2.2.2.2.2.2.2.1, j4.2.2.2.2.2.2.2.2.2.2.2.2.1, j4.2.2.2.2.2.2.2.2.2.2.2.2.2))
 else none
 else none
 else none
 else
 bif Nat.beq (List.length t24) (List.length t24) then
 bif Nat.beq (List.length t25) (List.length t25) then
 bif Nat.beq (List.length t35) (List.length t35) then
 some (.inr (t2, t22, t23, t3, t32, t33, t34, t24, t25, t35))
 else none
 else none
 else none)
def z3z (s : zfk) : Option (zfk ⊕ zmj) := zfg s.1 s.2.1 s.2.2.1 s.2.2.2.1 s.2.2.2.2.1 s.2.2.2.2.2.1 s.2.2.2.2.2.2.1 s.2.2.2.2.2.2.2.1 s.2.2.2.2.2.2.2.2.1 s.2.2.2.2.2.2.2.2.2.1 s.2.2.2.2.2.2.2.2.2.2.1 s.2.2.2.2.2.2.2.2.2.2.2.1 s.2.2.2.2.2.2.2.2.2.2.2.2
theorem zxd : SoundD Try.prog (.loop (subC (bodyC Try.f10) [1, 1, 1, 0, 1, 0, 0])) (loopD z8l.xe z8j (loopC z3z)) :=
 z0v (S := z8l.xe) (X := z8j) zsv (h := (.two .no (.two (.two .no (.join (fun _ => zaq) (.join (fun _ => z9g) .no (.two (.two .no (.two .no (.two (.over (loopD z1u.xe z1v (loopC z1c))) (.two .no (.reg [5] []))))) .no)) (.join (fun _ => z9p) (.join (fun _ => z8e) .no .no) .no))) .no))) (z0p [.xs (fun _ => zaq), .xs (fun _ => z9g), .den (.loop (subC (bodyC Try.f10) [1, 1, 1, 0, 1, 0, 0, 1, 0, 0, 1, 0, 1, 0, 1, 1, 0, 0, 0])) (loopD z1u.xe z1v (loopC z1c)), .xs (fun _ => z9p), .xs (fun _ => z8e)] (by kernel_rfl) ⟨(z2k zmp), (z2k zll), zfc, (z2k zlf), (z2k zk1), trivial⟩) (z0c z8l) zw2 z3z (fun s => by kernel_rfl)
def z15o : Shp := ⟨1, 0, [(0, .d c17)], []⟩
def z1d4 : XS := .one .ret z15o.xe
theorem z1ku : z1d4.OK := XS.one_ok (z0c z15o)
def zfu (l : List T1) : Option ((T5)) :=
 (zqw l).bind fun r =>
 (zf2 l).bind fun r2 =>
 bif Nat.beq 0 (List.length ([] : List T4)) then
 bif Nat.beq 0 (List.length ([] : List T2)) then
 bif Nat.beq 0 (List.length ([] : List T4)) then
 (loopC z3z (l, 0, List.replicate 8 (0 : Int), List.replicate 8 (0 : Int), List.replicate 8 false, r, r2, List.replicate 8 (0 : Int), List.replicate 8 false, List.replicate 8 (0 : Int), ([] : List T4), ([] : List T2), ([] : List T4))).bind fun o =>
 winK o.2.2.2.2.2.2.2.2.2 0 (List.length o.2.2.2.2.2.2.2.2.2) fun w =>
 some (o.2.2.2.1, w, o.2.2.2.2.1, o.2.2.2.2.2.1, o.2.2.2.2.2.2.1)
 else none
 else none
 else none
def zxr : Sig := ⟨10, [.d c3], [], 0, z1d4⟩
def zvh (x : (List T1)) : Option ((T5)) := zfu x
theorem z1ad : FnOK Try.prog zxr zvh :=
 fn_ok zsv (h := (.two .no (.two .no (.two .no (.two (.two .no (.over (loopD z8l.xe z8j (loopC z3z)))) .no))))) Try.func10 (z0p [.den (.loop (subC (bodyC Try.f10) [1, 1, 1, 0, 1, 0, 0])) (loopD z8l.xe z8j (loopC z3z))] (by kernel_rfl) ⟨zxd, trivial⟩) (by kernel_rfl) z1ku (fun x => by kernel_rfl)
def z1kd : Env := ⟨[], [], []⟩
theorem z1eo : EnvsOK Try.prog z1kd := ⟨z0w _, z0s _, z0t _⟩
def zwn : Shp := ⟨1, 0, [(0, .wn 0 c6)], [.row 45 c6]⟩
def z12e : XS := .one .ret zwn.xe
theorem z1e5 : z12e.OK := XS.one_ok (z0c zwn)
def zov (t0 : List T2) : Option (((List T2))) :=
 nilK (List.length t0) fun q =>
 bif q then
 bif Nat.beq 0 (List.length ([] : List T2)) then
 some ([] : List T2)
 else none
 else
 appG (List.length ([] : List T2)) (List.length t0) 96 fun _ =>
 bif Nat.beq (List.length t0) (List.length t0) then
 some t0
 else none
def z12n : Sig := ⟨61, [.d c5], [], 0, z12e⟩
def zyr (x : (List T2)) : Option (((List T2))) := zov x
theorem z1hu : FnOK Try.prog z12n zyr :=
 fn_ok z1eo (h := (.two .no (.two .no (.two (.reg [2] []) .no)))) Try.func61 (z0p [] (by kernel_rfl) trivial) (by kernel_rfl) z1e5 (fun x => by kernel_rfl)
def z1ki : Env := ⟨[], [], []⟩
theorem z1fk : EnvsOK Try.prog z1ki := ⟨z0w _, z0s _, z0t _⟩
def zxk : Shp := ⟨1, 0, [(0, .wn 0 c11)], [.row 85 c11]⟩
def z13q : XS := .one .ret zxk.xe
theorem z1e1 : z13q.OK := XS.one_ok (z0c zxk)
def zjn (t0 : List T3) : Option (((List T3))) :=
 nilK (List.length t0) fun q =>
 bif q then
 bif Nat.beq 0 (List.length ([] : List T3)) then
 some ([] : List T3)
 else none
 else
 appG (List.length ([] : List T3)) (List.length t0) 64 fun _ =>
 bif Nat.beq (List.length t0) (List.length t0) then
 some t0
 else none
def zrf : Sig := ⟨62, [.d c10], [], 0, z13q⟩
def zpk (x : (List T3)) : Option (((List T3))) := zjn x
theorem zyn : FnOK Try.prog zrf zpk :=
 fn_ok z1fk (h := (.two .no (.two .no (.two (.reg [2] []) .no)))) Try.func62 (z0p [] (by kernel_rfl) trivial) (by kernel_rfl) z1e1 (fun x => by kernel_rfl)
def z1sq : Env := ⟨[], [], []⟩
theorem z1au : EnvsOK Try.prog z1sq := ⟨z0w _, z0s _, z0t _⟩
def zpv : Shp := ⟨22, 0, [], []⟩
def zqh : Shp := ⟨22, 0, [(4, .d .bool)], []⟩
def zco : XS := .or (.exit 0) zpv.xe (.one .ret zqh.xe)
theorem z14r : zco.OK := XS.or_ok (z0c zpv) (XS.one_ok (z0c zqh))
def zd2 : Shp := ⟨22, 0, [(3, .pt 0 (.one (.arr 8 .leaf)) []), (7, .d c1), (8, .d (.int .i64))], [.var 25 (.d c1)]⟩
abbrev zks := (List Int) × Int × (List Int)
abbrev zst := (Unit) ⊕ (Bool)
def zko (t7 : List Int) (t8 : Int) (base : List Int) : Option (zks ⊕ zst) :=
 bif ltI t8 8 then
 (idxI t7 t8).bind fun x =>
 bif ltI 0 x then
 bif inI t8 8 then
 (base[t8.toNat]?).bind fun x2 =>
 bif leI x x2 then
 some (.inr (.inr true))
 else
 some (.inl (t7, W64 (t8 + 1), base))
 else none
 else
 some (.inl (t7, W64 (t8 + 1), base))
 else
 some (.inr (.inl ()))
def z5l (s : zks) : Option (zks ⊕ zst) := zko s.1 s.2.1 s.2.2
theorem z17q : SoundD Try.prog (.loop (subC (bodyC Try.f65) [1, 0, 1, 0, 0])) (loopD zd2.xe zco (loopC z5l)) :=
 z0v (S := zd2.xe) (X := zco) z1au (h := .no) (z0p [] (by kernel_rfl) trivial) (z0c zd2) z14r z5l (fun s => by kernel_rfl)
def z18i : Shp := ⟨1, 0, [(0, .d .bool)], []⟩
def z1eg : XS := .one .ret z18i.xe
theorem z1mp : z1eg.OK := XS.one_ok (z0c z18i)
def zsz (t0 : List Int) (base : List Int) : Option ((Bool)) :=
 (loopC z5l (t0, 0, base)).bind fun o =>
 Sum.elim (fun y =>
 some false) (fun y2 =>
 some y2) o
def z12t : Sig := ⟨65, [.d c1, .d c1], [], 0, z1eg⟩
def zy1 (x : (List Int) × (List Int)) : Option ((Bool)) := zsz x.1 x.2
theorem z1cl : FnOK Try.prog z12t zy1 :=
 fn_ok z1au (h := (.two .no (.two (.two .no (.over (loopD zd2.xe zco (loopC z5l)))) .no))) Try.func65 (z0p [.den (.loop (subC (bodyC Try.f65) [1, 0, 1, 0, 0])) (loopD zd2.xe zco (loopC z5l))] (by kernel_rfl) ⟨z17q, trivial⟩) (by kernel_rfl) z1mp (fun x => by kernel_rfl)
def z1mt : Env := ⟨[(entQ z12t zy1)], [], []⟩
theorem z1i8 : EnvsOK Try.prog z1mt := ⟨z0o (z0q z1cl) (z0w _), z0s _, z0t _⟩
def zz8 : Shp := ⟨1, 0, [(0, .d .bool)], []⟩
def z15j : XS := .one .ret zz8.xe
theorem z1fs : z15j.OK := XS.one_ok (z0c zz8)
def zf7 (x : T2) (t1 : List Int) : Option ((Bool)) :=
 (zsz x.2.2.2.2 t1).bind fun r =>
 some r
def zu8 : Sig := ⟨64, [.d c6, .rf (.d c1)], [], 0, z15j⟩
def zrn (x : T2 × (List Int)) : Option ((Bool)) := zf7 x.1 x.2
theorem z13c : FnOK Try.prog zu8 zrn :=
 fn_ok z1i8 (h := .no) Try.func64 (z0p [] (by kernel_rfl) trivial) (by kernel_rfl) z1fs (fun x => by kernel_rfl)
def z1gt : Env := ⟨[(entQ zu8 zrn)], [], []⟩
theorem ztk : EnvsOK Try.prog z1gt := ⟨z0o (z0q z13c) (z0w _), z0s _, z0t _⟩
def zjk : Shp := ⟨19, 0, [], []⟩
def zjg : Shp := ⟨19, 0, [(4, .d (.int .i64))], []⟩
def z7q : XS := .or (.exit 0) zjk.xe (.one .ret zjg.xe)
theorem zuq : z7q.OK := XS.or_ok (z0c zjk) (XS.one_ok (z0c zjg))
def z7o : Shp := ⟨19, 0, [(0, .d c5), (1, .fn 64 [.rf (.d c1)]), (7, .d (.int .i64)), (8, .d (.int .i64))], []⟩
abbrev zf8 := (List T2) × (List Int) × Int × Int
abbrev zlj := (Unit) ⊕ (Int)
def zf4 (t0 : List T2) (f : List Int) (t7 : Int) (t8 : Int) : Option (zf8 ⊕ zlj) :=
 bif ltI t8 t7 then
 (idxI t0 t8).bind fun x =>
 (zf7 x f).bind fun r =>
 bif r then
 some (.inr (.inr t8))
 else
 some (.inl (t0, f, t7, W64 (t8 + 1)))
 else
 some (.inr (.inl ()))
def z2v (s : zf8) : Option (zf8 ⊕ zlj) := zf4 s.1 s.2.1 s.2.2.1 s.2.2.2
theorem zvr : SoundD Try.prog (.loop (subC (bodyC Try.f85) [1, 0, 1, 0, 0])) (loopD z7o.xe z7q (loopC z2v)) :=
 z0v (S := z7o.xe) (X := z7q) ztk (h := .no) (z0p [] (by kernel_rfl) trivial) (z0c z7o) zuq z2v (fun s => by kernel_rfl)
def zsu : Shp := ⟨1, 0, [(0, .d (.int .i64))], []⟩
def zxc : XS := .one .ret zsu.xe
theorem z1ah : zxc.OK := XS.one_ok (z0c zsu)
def zkk (t0 : List T2) (f : List Int) : Option ((Int)) :=
 z0u (List.length t0) (
 (loopC z2v (t0, f, (List.length t0 : Nat), 0)).bind fun o =>
 Sum.elim (fun y =>
 some (-1)) (fun y2 =>
 some y2) o)
def zwi : Sig := ⟨85, [.d c5, .fn 64 [.rf (.d c1)]], [], 0, zxc⟩
def zv3 (x : (List T2) × (List Int)) : Option ((Int)) := zkk x.1 x.2
theorem z1e4 : FnOK Try.prog zwi zv3 :=
 fn_ok ztk (h := (.two .no (.two (.two .no (.over (loopD z7o.xe z7q (loopC z2v)))) .no))) Try.func85 (z0p [.den (.loop (subC (bodyC Try.f85) [1, 0, 1, 0, 0])) (loopD z7o.xe z7q (loopC z2v))] (by kernel_rfl) ⟨zvr, trivial⟩) (by kernel_rfl) z1ah (fun x => by kernel_rfl)
def z1b1 : Env := ⟨[(entQ zwi zv3), (entQ zu8 zrn)], [], []⟩
theorem zpi : EnvsOK Try.prog z1b1 := ⟨z0o (z0q z1e4) (z0o (z0q z13c) (z0w _)), z0s _, z0t _⟩
def zeu : Shp := ⟨42, 2, [(0, .wn 0 c6), (5, .d (.int .i64))], [.row 45 c6, .var 25 (.d c1)]⟩
def z4j : XS := .one (.exit 0) zeu.xe
theorem zmv : z4j.OK := XS.one_ok (z0c zeu)
def z4i : Shp := ⟨42, 2, [(0, .wn 0 c6), (1, .fn 64 [.pt 1 (.one (.arr 8 .leaf)) []]), (5, .d (.int .i64)), (6, .d (.int .i64))], [.row 45 c6, .var 25 (.d c1)]⟩
abbrev zbs := Int × Int × (List T2) × (List Int)
abbrev zfv := (Int × (List T2) × (List Int))
def zbh (i : Int) (j : Int) (t0 : List T2) (del : List Int) : Option (zbs ⊕ zfv) :=
 z0u (List.length t0) (
 bif ltI j (List.length t0 : Nat) then
 bif inI j (List.length t0) then
 (t0[j.toNat]?).bind fun x =>
 (zf7 x del).bind fun r =>
 bif !r then
 bif inI i (List.length t0) then
 (t0[i.toNat]?).bind fun _x =>
 bif Nat.beq (List.length t0) (List.length (t0.set i.toNat x)) then
 some (.inl (W64 (i + 1), W64 (j + 1), t0.set i.toNat x, del))
 else none
 else none
 else
 bif Nat.beq (List.length t0) (List.length t0) then
 some (.inl (i, W64 (j + 1), t0, del))
 else none
 else none
 else
 bif Nat.beq (List.length t0) (List.length t0) then
 some (.inr (i, t0, del))
 else none)
def z1r (s : zbs) : Option (zbs ⊕ zfv) := zbh s.1 s.2.1 s.2.2.1 s.2.2.2
theorem zog : SoundD Try.prog (.loop (subC (bodyC Try.f63) [1, 1, 1, 0, 1, 0, 0])) (loopD z4i.xe z4j (loopC z1r)) :=
 z0v (S := z4i.xe) (X := z4j) zpi (h := .no) (z0p [] (by kernel_rfl) trivial) (z0c z4i) zmv z1r (fun s => by kernel_rfl)
def zph : Shp := ⟨1, 2, [(0, .ws 0 c6)], [.row 45 c6, .var 25 (.d c1)]⟩
def zsl : XS := .one .ret zph.xe
theorem z12c : zsl.OK := XS.one_ok (z0c zph)
def zgo (t0 : List T2) (del : List Int) : Option (((List Bool) × (List T2) × (List Int))) :=
 winK t0 0 (List.length t0) fun w =>
 (zkk w del).bind fun r =>
 bif eqI r (-1) then
 some ((List.replicate (List.length t0) true), t0, del)
 else
 bif Nat.beq (List.length t0) (List.length t0) then
 (loopC z1r (r, W64 (r + 1), t0, del)).bind fun o =>
 bif subOk o.1 (List.length o.2.1 : Nat) (List.length o.2.1) then
 bif Nat.ble (addN o.1.toNat ((List.length o.2.1) - o.1.toNat)) (List.length o.2.1) then
 bif subOk 0 o.1 (List.length o.2.1) then
 some (((List.replicate o.1.toNat true), cpyL o.2.1 o.1.toNat ((List.length o.2.1) - o.1.toNat) (List.replicate ((List.length o.2.1) - o.1.toNat) (((0 : Int), (0 : Int)), ((0 : Int), (0 : Int)), ([] : List Int), ((0 : Int), (0 : Int)), List.replicate 8 (0 : Int))), o.2.2))
 else none
 else none
 else none
 else none
def zs3 : Sig := ⟨63, [.wn 0 c6, .fn 64 [.pt 1 (.one (.arr 8 .leaf)) []]], [.row 45 c6, .var 25 (.d c1)], 2, zsl⟩
def zqi (x : (List T2) × (List Int)) : Option (((List Bool) × (List T2) × (List Int))) := zgo x.1 x.2
theorem z17u : FnOK Try.prog zs3 zqi :=
 fn_ok zpi (h := (.two .no (.two .no (.two .no (.two (.two .no (.over (loopD z4i.xe z4j (loopC z1r)))) .no))))) Try.func63 (z0p [.den (.loop (subC (bodyC Try.f63) [1, 1, 1, 0, 1, 0, 0])) (loopD z4i.xe z4j (loopC z1r))] (by kernel_rfl) ⟨zog, trivial⟩) (by kernel_rfl) z12c (fun x => by kernel_rfl)
def z1hw : Env := ⟨[(entQ z12t zy1)], [], []⟩
theorem z1e8 : EnvsOK Try.prog z1hw := ⟨z0o (z0q z1cl) (z0w _), z0s _, z0t _⟩
def zuv : Shp := ⟨1, 0, [(0, .d .bool)], []⟩
def zz3 : XS := .one .ret zuv.xe
theorem z1bk : zz3.OK := XS.one_ok (z0c zuv)
def zcw (v : T3) (t1 : List Int) : Option ((Bool)) :=
 (zsz v.2.2 t1).bind fun r =>
 some r
def zpq : Sig := ⟨67, [.d c11, .rf (.d c1)], [], 0, zz3⟩
def zoa (x : T3 × (List Int)) : Option ((Bool)) := zcw x.1 x.2
theorem zx6 : FnOK Try.prog zpq zoa :=
 fn_ok z1e8 (h := .no) Try.func67 (z0p [] (by kernel_rfl) trivial) (by kernel_rfl) z1bk (fun x => by kernel_rfl)
def z1bx : Env := ⟨[(entQ zpq zoa)], [], []⟩
theorem zqu : EnvsOK Try.prog z1bx := ⟨z0o (z0q zx6) (z0w _), z0s _, z0t _⟩
def zhk : Shp := ⟨19, 0, [], []⟩
def zhp : Shp := ⟨19, 0, [(4, .d (.int .i64))], []⟩
def z6c : XS := .or (.exit 0) zhk.xe (.one .ret zhp.xe)
theorem zsm : z6c.OK := XS.or_ok (z0c zhk) (XS.one_ok (z0c zhp))
def z6j : Shp := ⟨19, 0, [(0, .d c10), (1, .fn 67 [.rf (.d c1)]), (7, .d (.int .i64)), (8, .d (.int .i64))], []⟩
abbrev zdr := (List T3) × (List Int) × Int × Int
abbrev zje := (Unit) ⊕ (Int)
def zdp (t0 : List T3) (f : List Int) (t7 : Int) (t8 : Int) : Option (zdr ⊕ zje) :=
 bif ltI t8 t7 then
 (idxI t0 t8).bind fun x =>
 (zcw x f).bind fun r =>
 bif r then
 some (.inr (.inr t8))
 else
 some (.inl (t0, f, t7, W64 (t8 + 1)))
 else
 some (.inr (.inl ()))
def z2o (s : zdr) : Option (zdr ⊕ zje) := zdp s.1 s.2.1 s.2.2.1 s.2.2.2
theorem zss : SoundD Try.prog (.loop (subC (bodyC Try.f86) [1, 0, 1, 0, 0])) (loopD z6j.xe z6c (loopC z2o)) :=
 z0v (S := z6j.xe) (X := z6c) zqu (h := .no) (z0p [] (by kernel_rfl) trivial) (z0c z6j) zsm z2o (fun s => by kernel_rfl)
def zqd : Shp := ⟨1, 0, [(0, .d (.int .i64))], []⟩
def ztq : XS := .one .ret zqd.xe
theorem z14m : ztq.OK := XS.one_ok (z0c zqd)
def zhl (t0 : List T3) (f : List Int) : Option ((Int)) :=
 z0u (List.length t0) (
 (loopC z2o (t0, f, (List.length t0 : Nat), 0)).bind fun o =>
 Sum.elim (fun y =>
 some (-1)) (fun y2 =>
 some y2) o)
def zul : Sig := ⟨86, [.d c10, .fn 67 [.rf (.d c1)]], [], 0, ztq⟩
def zsh (x : (List T3) × (List Int)) : Option ((Int)) := zhl x.1 x.2
theorem z1a4 : FnOK Try.prog zul zsh :=
 fn_ok zqu (h := (.two .no (.two (.two .no (.over (loopD z6j.xe z6c (loopC z2o)))) .no))) Try.func86 (z0p [.den (.loop (subC (bodyC Try.f86) [1, 0, 1, 0, 0])) (loopD z6j.xe z6c (loopC z2o))] (by kernel_rfl) ⟨zss, trivial⟩) (by kernel_rfl) z14m (fun x => by kernel_rfl)
def z1aw : Env := ⟨[(entQ zul zsh), (entQ zpq zoa)], [], []⟩
theorem zpb : EnvsOK Try.prog z1aw := ⟨z0o (z0q z1a4) (z0o (z0q zx6) (z0w _)), z0s _, z0t _⟩
def zev : Shp := ⟨42, 2, [(0, .wn 0 c11), (5, .d (.int .i64))], [.row 85 c11, .var 25 (.d c1)]⟩
def z4h : XS := .one (.exit 0) zev.xe
theorem zn1 : z4h.OK := XS.one_ok (z0c zev)
def z4l : Shp := ⟨42, 2, [(0, .wn 0 c11), (1, .fn 67 [.pt 1 (.one (.arr 8 .leaf)) []]), (5, .d (.int .i64)), (6, .d (.int .i64))], [.row 85 c11, .var 25 (.d c1)]⟩
abbrev zbt := Int × Int × (List T3) × (List Int)
abbrev zfs := (Int × (List T3) × (List Int))
def zbf (i : Int) (j : Int) (t0 : List T3) (del : List Int) : Option (zbt ⊕ zfs) :=
 z0u (List.length t0) (
 bif ltI j (List.length t0 : Nat) then
 bif inI j (List.length t0) then
 (t0[j.toNat]?).bind fun x =>
 (zcw x del).bind fun r =>
 bif !r then
 bif inI i (List.length t0) then
 (t0[i.toNat]?).bind fun _x =>
 bif Nat.beq (List.length t0) (List.length (t0.set i.toNat x)) then
 some (.inl (W64 (i + 1), W64 (j + 1), t0.set i.toNat x, del))
 else none
 else none
 else
 bif Nat.beq (List.length t0) (List.length t0) then
 some (.inl (i, W64 (j + 1), t0, del))
 else none
 else none
 else
 bif Nat.beq (List.length t0) (List.length t0) then
 some (.inr (i, t0, del))
 else none)
def z1q (s : zbt) : Option (zbt ⊕ zfs) := zbf s.1 s.2.1 s.2.2.1 s.2.2.2
theorem zol : SoundD Try.prog (.loop (subC (bodyC Try.f66) [1, 1, 1, 0, 1, 0, 0])) (loopD z4l.xe z4h (loopC z1q)) :=
 z0v (S := z4l.xe) (X := z4h) zpb (h := .no) (z0p [] (by kernel_rfl) trivial) (z0c z4l) zn1 z1q (fun s => by kernel_rfl)
def zp1 : Shp := ⟨1, 2, [(0, .ws 0 c11)], [.row 85 c11, .var 25 (.d c1)]⟩
def zs7 : XS := .one .ret zp1.xe
theorem z13a : zs7.OK := XS.one_ok (z0c zp1)
def zgn (t0 : List T3) (del : List Int) : Option (((List Bool) × (List T3) × (List Int))) :=
 winK t0 0 (List.length t0) fun w =>
 (zhl w del).bind fun r =>
 bif eqI r (-1) then
 some ((List.replicate (List.length t0) true), t0, del)
 else
 bif Nat.beq (List.length t0) (List.length t0) then
 (loopC z1q (r, W64 (r + 1), t0, del)).bind fun o =>
 bif subOk o.1 (List.length o.2.1 : Nat) (List.length o.2.1) then
 bif Nat.ble (addN o.1.toNat ((List.length o.2.1) - o.1.toNat)) (List.length o.2.1) then
 bif subOk 0 o.1 (List.length o.2.1) then
 some (((List.replicate o.1.toNat true), cpyL o.2.1 o.1.toNat ((List.length o.2.1) - o.1.toNat) (List.replicate ((List.length o.2.1) - o.1.toNat) (((0 : Int), (0 : Int)), ([] : List Int), List.replicate 8 (0 : Int))), o.2.2))
 else none
 else none
 else none
 else none
def zsk : Sig := ⟨66, [.wn 0 c11, .fn 67 [.pt 1 (.one (.arr 8 .leaf)) []]], [.row 85 c11, .var 25 (.d c1)], 2, zs7⟩
def zr2 (x : (List T3) × (List Int)) : Option (((List Bool) × (List T3) × (List Int))) := zgn x.1 x.2
theorem z17p : FnOK Try.prog zsk zr2 :=
 fn_ok zpb (h := (.two .no (.two .no (.two .no (.two (.two .no (.over (loopD z4l.xe z4h (loopC z1q)))) .no))))) Try.func66 (z0p [.den (.loop (subC (bodyC Try.f66) [1, 1, 1, 0, 1, 0, 0])) (loopD z4l.xe z4h (loopC z1q))] (by kernel_rfl) ⟨zol, trivial⟩) (by kernel_rfl) z13a (fun x => by kernel_rfl)
def z1n5 : Env := ⟨[], [(entP zrf zpk), (entP zsk zr2)], []⟩
theorem z1ia : EnvsOK Try.prog z1n5 := ⟨z0w _, zca (zg2 zyn) (zca (zg2 z17p) (z0s _)), z0t _⟩
def zyq : Shp := ⟨1, 0, [(0, .d c10)], []⟩
def z15y : XS := .one .ret zyq.xe
theorem z1gv : z15y.OK := XS.one_ok (z0c zyq)
def zr8 (l : List T3) (base : List Int) : Option (((List T3))) :=
 (zjn l).bind fun r =>
 bif Nat.beq (List.length r) (List.length r) then
 (zgn r base).bind fun r2 =>
 winK r2.2.1 0 (lenW r2.1) fun w =>
 some w
 else none
def z15n : Sig := ⟨37, [.d c10, .d c1], [], 0, z15y⟩
def z11c (x : (List T3) × (List Int)) : Option (((List T3))) := zr8 x.1 x.2
theorem z1jw : FnOK Try.prog z15n z11c :=
 fn_ok z1ia (h := .no) Try.func37 (z0p [] (by kernel_rfl) trivial) (by kernel_rfl) z1gv (fun x => by kernel_rfl)
def z1mj : Env := ⟨[], [(entP z12n zyr), (entP zrf zpk)], []⟩
theorem zyf : EnvsOK Try.prog z1mj := ⟨z0w _, zca (zg2 z1hu) (zca (zg2 zyn) (z0s _)), z0t _⟩
def zgr : Shp := ⟨31, 0, [(2, .pt 0 r15 []), (3, .pt 1 r15 [])], [.var 33 (.ag [.d c1, .wn 2 c14, .wn 3 c6, .d c16, .d (.arr 8 .bool)]), .var 33 (.ag [.d c1, .wn 4 c14, .wn 5 c6, .d c16, .d (.arr 8 .bool)]), .row 49 c14, .row 45 c6, .row 49 c14, .row 45 c6]⟩
def z5y : XS := .one (.exit 0) zgr.xe
theorem zri : z5y.OK := XS.one_ok (z0c zgr)
def z5w : Shp := ⟨31, 0, [(2, .pt 0 r15 []), (3, .pt 1 r15 []), (13, .d c18), (14, .d (.int .i64)), (15, .d (.int .i64))], [.var 33 (.ag [.d c1, .wn 2 c14, .wn 3 c6, .d c16, .d (.arr 8 .bool)]), .var 33 (.ag [.d c1, .wn 4 c14, .wn 5 c6, .d c16, .d (.arr 8 .bool)]), .row 49 c14, .row 45 c6, .row 49 c14, .row 45 c6]⟩
abbrev zd8 := (List T4) × Int × Int × (List Int) × (List Int) × (List Bool) × (List Int) × (List Int) × (List Bool) × (List T4) × (List T2) × (List T4) × (List T2)
abbrev zj2 := ((List Int) × (List Int) × (List Bool) × (List Int) × (List Int) × (List Bool) × (List T4) × (List T2) × (List T4) × (List T2))
def zd7 (t13 : List T4) (t14 : Int) (t15 : Int) (t2 : List Int) (t22 : List Int) (t23 : List Bool) (out : List Int) (out2 : List Int) (out3 : List Bool) (t24 : List T4) (t25 : List T2) (out4 : List T4) (out5 : List T2) : Option (zd8 ⊕ zj2) :=
 bif ltI t15 t14 then
 (idxI t13 t15).bind fun x =>
 (zjn x.2.2.2.2.2).bind fun r =>
 winK r 0 (List.length r) fun w =>
 bif Nat.beq (List.length out4) (List.length out4) then
 appG (List.length out4) (List.length ([(x.1, x.2.1, x.2.2.1, x.2.2.2.1, x.2.2.2.2.1, w)] : List T4)) 112 fun _ =>
 bif Nat.beq (List.length t24) (List.length t24) then
 bif Nat.beq (List.length t25) (List.length t25) then
 bif Nat.beq (List.length (out4 ++ ([(x.1, x.2.1, x.2.2.1, x.2.2.2.1, x.2.2.2.2.1, w)] : List T4))) (List.length (out4 ++ ([(x.1, x.2.1, x.2.2.1, x.2.2.2.1, x.2.2.2.2.1, w)] : List T4))) then
 bif Nat.beq (List.length out5) (List.length out5) then
 some (.inl (t13, t14, W64 (t15 + 1), t2, t22, t23, out, out2, out3, t24, t25, out4 ++ ([(x.1, x.2.1, x.2.2.1, x.2.2.2.1, x.2.2.2.2.1, w)] : List T4), out5))
 else none
 else none
 else none
 else none
 else none
 else
 bif Nat.beq (List.length t24) (List.length t24) then
 bif Nat.beq (List.length t25) (List.length t25) then
 bif Nat.beq (List.length out4) (List.length out4) then
 bif Nat.beq (List.length out5) (List.length out5) then
 some (.inr (t2, t22, t23, out, out2, out3, t24, t25, out4, out5))
 else none
 else none
 else none
 else none
def z2w (s : zd8) : Option (zd8 ⊕ zj2) := zd7 s.1 s.2.1 s.2.2.1 s.2.2.2.1 s.2.2.2.2.1 s.2.2.2.2.2.1 s.2.2.2.2.2.2.1 s.2.2.2.2.2.2.2.1 s.2.2.2.2.2.2.2.2.1 s.2.2.2.2.2.2.2.2.2.1 s.2.2.2.2.2.2.2.2.2.2.1 s.2.2.2.2.2.2.2.2.2.2.2.1 s.2.2.2.2.2.2.2.2.2.2.2.2
theorem zsr : SoundD Try.prog (.loop (subC (bodyC Try.f35) [1, 1, 1, 1, 0, 1, 0, 0])) (loopD z5w.xe z5y (loopC z2w)) :=
 z0v (S := z5w.xe) (X := z5y) zyf (h := (.two .no (.two .no (.two (.two .no (.two (.reg [4] []) .no)) .no)))) (z0p [] (by kernel_rfl) trivial) (z0c z5w) zri z2w (fun s => by kernel_rfl)
def zyo : Shp := ⟨1, 0, [(0, .ag [.d c1, .wn 0 c14, .wn 1 c6, .d c16, .d (.arr 8 .bool)])], [.row 49 c14, .row 45 c6]⟩
def z16x : XS := .one .ret zyo.xe
theorem z1h1 : z16x.OK := XS.one_ok (z0c zyo)
def zre (t0 : T5) : Option (((List Int) × (List Int) × (List Bool) × (List T4) × (List T2))) :=
 (zov t0.2.2.1).bind fun r =>
 z0u (List.length t0.2.1) (
 bif Nat.beq 0 (List.length ([] : List T4)) then
 bif Nat.beq 0 (List.length ([] : List T2)) then
 bif Nat.beq 0 (List.length ([] : List T4)) then
 bif Nat.beq (List.length r) (List.length r) then
 (loopC z2w (t0.2.1, (List.length t0.2.1 : Nat), 0, List.replicate 8 (0 : Int), List.replicate 8 (0 : Int), List.replicate 8 false, t0.1, t0.2.2.2.1, t0.2.2.2.2, ([] : List T4), ([] : List T2), ([] : List T4), r)).bind fun o =>
 bif Nat.beq (List.length o.2.2.2.2.2.2.2.2.1) (List.length o.2.2.2.2.2.2.2.2.1) then
 bif Nat.beq (List.length o.2.2.2.2.2.2.2.2.2) (List.length o.2.2.2.2.2.2.2.2.2) then
 some (o.2.2.2.1, o.2.2.2.2.1, o.2.2.2.2.2.1, o.2.2.2.2.2.2.2.2.1, o.2.2.2.2.2.2.2.2.2)
 else none
 else none
 else none
 else none
 else none
 else none)
def z15e : Sig := ⟨35, [.d c17], [], 0, z16x⟩
def z12b (x : T5) : Option (((List Int) × (List Int) × (List Bool) × (List T4) × (List T2))) := zre x
theorem z1l0 : FnOK Try.prog z15e z12b :=
 fn_ok zyf (h := (.two .no (.two (.reg [1000002] []) (.two .no (.two .no (.two (.two .no (.over (loopD z5w.xe z5y (loopC z2w)))) .no)))))) Try.func35 (z0p [.den (.loop (subC (bodyC Try.f35) [1, 1, 1, 1, 0, 1, 0, 0])) (loopD z5w.xe z5y (loopC z2w))] (by kernel_rfl) ⟨zsr, trivial⟩) (by kernel_rfl) z1h1 (fun x => by kernel_rfl)
def z1jt : Env := ⟨[], [], []⟩
theorem z1fw : EnvsOK Try.prog z1jt := ⟨z0w _, z0s _, z0t _⟩
def zws : Shp := ⟨1, 1, [(0, .wn 1 c6)], [.row 45 c6, .row 45 c6]⟩
def z11s : XS := .one .ret zws.xe
theorem z1e9 : z11s.OK := XS.one_ok (z0c zws)
def zor (t0 : List T2) : Option (((List T2) × (List T2))) :=
 nilK (List.length t0) fun q =>
 bif q then
 bif Nat.beq 0 (List.length ([] : List T2)) then
 some (t0, ([] : List T2))
 else none
 else
 winK t0 0 (List.length t0) fun w =>
 appG (List.length ([] : List T2)) (List.length w) 96 fun _ =>
 bif Nat.beq (List.length w) (List.length w) then
 some (t0, w)
 else none
def z12s : Sig := ⟨61, [.wn 0 c6], [.row 45 c6], 1, z11s⟩
def zyx (x : (List T2)) : Option (((List T2) × (List T2))) := zor x
theorem z1i7 : FnOK Try.prog z12s zyx :=
 fn_ok z1fw (h := (.two .no (.two .no (.two (.reg [2] []) .no)))) Try.func61 (z0p [] (by kernel_rfl) trivial) (by kernel_rfl) z1e9 (fun x => by kernel_rfl)
def z1ll : Env := ⟨[], [(entP z12s zyx), (entP zs3 zqi)], []⟩
theorem z1ib : EnvsOK Try.prog z1ll := ⟨z0w _, zca (zg2 z1i7) (zca (zg2 z17u) (z0s _)), z0t _⟩
def zym : Shp := ⟨1, 1, [(0, .ws 1 c6)], [.row 45 c6, .row 45 c6]⟩
def z15d : XS := .one .ret zym.xe
theorem z1g7 : z15d.OK := XS.one_ok (z0c zym)
def zr5 (base : List Int) (l : List T2) : Option (((List Bool) × (List T2) × (List T2))) :=
 bif Nat.beq (List.length l) (List.length l) then
 (zor l).bind fun r =>
 bif Nat.beq (List.length r.2) (List.length r.2) then
 (zgo r.2 base).bind fun r2 =>
 some ((List.replicate (lenW r2.1) true), r.1, r2.2.1)
 else none
 else none
def z16o : Sig := ⟨36, [.wn 0 c6, .d c1], [.row 45 c6], 1, z15d⟩
def z13y (x : (List Int) × (List T2)) : Option (((List Bool) × (List T2) × (List T2))) := zr5 x.1 x.2
theorem z1kx : FnOK Try.prog z16o z13y :=
 fn_ok z1ib (h := .no) Try.func36 (z0p [] (by kernel_rfl) trivial) (by kernel_rfl) z1g7 (fun x => by kernel_rfl)
def z1yx : Env := ⟨[], [], []⟩
theorem z1up : EnvsOK Try.prog z1yx := ⟨z0w _, z0s _, z0t _⟩
def z1j3 : Shp := ⟨1, 0, [(0, .d (.int .u32))], []⟩
def z1pm : XS := .one .ret z1j3.xe
theorem z1rr : z1pm.OK := XS.one_ok (z0c z1j3)
def z1hd (v : List Int) (rep : Int) : Option ((Int)) :=
 bif ltI rep 1 then
 some 0
 else
 bif ltI 8 rep then
 some 0
 else
 bif inI (W64 (rep - 1)) 8 then
 (v[(W64 (rep - 1)).toNat]?).bind fun x =>
 some x
 else none
def z1q9 : Sig := ⟨87, [.d c1, .d (.int .i64)], [], 0, z1pm⟩
def z1mi (x : (List Int) × Int) : Option ((Int)) := z1hd x.1 x.2
theorem z1wp : FnOK Try.prog z1q9 z1mi :=
 fn_ok z1up (h := .no) Try.func87 (z0p [] (by kernel_rfl) trivial) (by kernel_rfl) z1rr (fun x => by kernel_rfl)
def z1zd : Env := ⟨[(entQ z1q9 z1mi)], [], []⟩
theorem z1u7 : EnvsOK Try.prog z1zd := ⟨z0o (z0q z1wp) (z0w _), z0s _, z0t _⟩
def z1j7 : Shp := ⟨1, 0, [(0, .d .bool)], []⟩
def z1pw : XS := .one .ret z1j7.xe
theorem z1ru : z1pw.OK := XS.one_ok (z0c z1j7)
def z10v (v : List Int) (id : T0) : Option ((Bool)) :=
 bif leI 1 id.2 then
 (z1hd v id.1).bind fun r =>
 some (leI id.2 r)
 else
 some false
def z1fp : Sig := ⟨69, [.d c1, .d c0], [], 0, z1pw⟩
def z1bh (x : (List Int) × T0) : Option ((Bool)) := z10v x.1 x.2
theorem z1mu : FnOK Try.prog z1fp z1bh :=
 fn_ok z1u7 (h := .no) Try.func69 (z0p [] (by kernel_rfl) trivial) (by kernel_rfl) z1ru (fun x => by kernel_rfl)
def z1ye : Env := ⟨[], [], []⟩
theorem z1ja : EnvsOK Try.prog z1ye := ⟨z0w _, z0s _, z0t _⟩
def zv6 : Shp := ⟨18, 0, [], []⟩
def zuz : Shp := ⟨18, 0, [(4, .d .bool)], []⟩
def zfa : XS := .or (.exit 0) zv6.xe (.one .ret zuz.xe)
theorem z1c4 : zfa.OK := XS.or_ok (z0c zv6) (XS.one_ok (z0c zuz))
def zf9 : Shp := ⟨18, 0, [(3, .pt 0 (.one (.arr 8 .leaf)) []), (7, .d c1), (8, .d (.int .i64))], [.var 25 (.d c1)]⟩
abbrev zpp := (List Int) × Int × (List Int)
abbrev zz5 := (Unit) ⊕ (Bool)
def zpl (t7 : List Int) (t8 : Int) (b : List Int) : Option (zpp ⊕ zz5) :=
 bif ltI t8 8 then
 (idxI t7 t8).bind fun x =>
 bif inI t8 8 then
 (b[t8.toNat]?).bind fun x2 =>
 bif ltI x2 x then
 some (.inr (.inr false))
 else
 some (.inl (t7, W64 (t8 + 1), b))
 else none
 else
 some (.inr (.inl ()))
def z7x (s : zpp) : Option (zpp ⊕ zz5) := zpl s.1 s.2.1 s.2.2
theorem z1dy : SoundD Try.prog (.loop (subC (bodyC Try.f51) [1, 0, 1, 0, 0])) (loopD zf9.xe zfa (loopC z7x)) :=
 z0v (S := zf9.xe) (X := zfa) z1ja (h := .no) (z0p [] (by kernel_rfl) trivial) (z0c zf9) z1c4 z7x (fun s => by kernel_rfl)
def z1is : Shp := ⟨1, 0, [(0, .d .bool)], []⟩
def z1p7 : XS := .one .ret z1is.xe
theorem z1tj : z1p7.OK := XS.one_ok (z0c z1is)
def z1hq (a : List Int) (b : List Int) : Option ((Bool)) :=
 (loopC z7x (a, 0, b)).bind fun o =>
 Sum.elim (fun y =>
 some true) (fun y2 =>
 some y2) o
def z1pp : Sig := ⟨51, [.d c1, .d c1], [], 0, z1p7⟩
def z1ms (x : (List Int) × (List Int)) : Option ((Bool)) := z1hq x.1 x.2
theorem z1wq : FnOK Try.prog z1pp z1ms :=
 fn_ok z1ja (h := (.two .no (.two (.two .no (.over (loopD zf9.xe zfa (loopC z7x)))) .no))) Try.func51 (z0p [.den (.loop (subC (bodyC Try.f51) [1, 0, 1, 0, 0])) (loopD zf9.xe zfa (loopC z7x))] (by kernel_rfl) ⟨z1dy, trivial⟩) (by kernel_rfl) z1tj (fun x => by kernel_rfl)
def z1nz : Env := ⟨[], [], []⟩
theorem z1k7 : EnvsOK Try.prog z1nz := ⟨z0w _, z0s _, z0t _⟩
def z12q : Shp := ⟨1, 0, [(0, .d .bool)], []⟩
def z19n : XS := .one .ret z12q.xe
theorem z1i5 : z19n.OK := XS.one_ok (z0c z12q)
def ztp (v : T3) : Option ((Bool)) :=
 some (eqU c1 v.2.2 (List.replicate 8 (0 : Int)))
def zvs : Sig := ⟨46, [.d c11], [], 0, z19n⟩
def ztn (x : T3) : Option ((Bool)) := ztp x
theorem z16k : FnOK Try.prog zvs ztn :=
 fn_ok z1k7 (h := .no) Try.func46 (z0p [] (by kernel_rfl) trivial) (by kernel_rfl) z1i5 (fun x => by kernel_rfl)
def z1mm : Env := ⟨[(entQ zvs ztn)], [], []⟩
theorem zys : EnvsOK Try.prog z1mm := ⟨z0o (z0q z16k) (z0w _), z0s _, z0t _⟩
def zkf : Shp := ⟨20, 0, [(3, .wn 0 c11)], [.row 85 c11]⟩
def z8t : XS := .one (.exit 0) zkf.xe
theorem zw0 : z8t.OK := XS.one_ok (z0c zkf)
def z8s : Shp := ⟨20, 0, [(3, .wn 0 c11), (6, .d c10), (7, .d (.int .i64)), (8, .d (.int .i64))], [.row 85 c11]⟩
abbrev zfj := (List T3) × Int × Int × (List T3)
abbrev zm9 := ((List T3))
def zfh (t6 : List T3) (t7 : Int) (t8 : Int) (out : List T3) : Option (zfj ⊕ zm9) :=
 bif ltI t8 t7 then
 (idxI t6 t8).bind fun x =>
 (ztp x).bind fun r =>
 bif r then
 bif Nat.beq (List.length out) (List.length out) then
 appG (List.length out) (List.length ([x] : List T3)) 64 fun _ =>
 bif Nat.beq (List.length (out ++ ([x] : List T3))) (List.length (out ++ ([x] : List T3))) then
 some (.inl (t6, t7, W64 (t8 + 1), out ++ ([x] : List T3)))
 else none
 else none
 else
 bif Nat.beq (List.length out) (List.length out) then
 some (.inl (t6, t7, W64 (t8 + 1), out))
 else none
 else
 bif Nat.beq (List.length out) (List.length out) then
 some (.inr out)
 else none
def z4a (s : zfj) : Option (zfj ⊕ zm9) := zfh s.1 s.2.1 s.2.2.1 s.2.2.2
theorem zxa : SoundD Try.prog (.loop (subC (bodyC Try.f89) [1, 1, 0, 1, 0, 0])) (loopD z8s.xe z8t (loopC z4a)) :=
 z0v (S := z8s.xe) (X := z8t) zys (h := .no) (z0p [] (by kernel_rfl) trivial) (z0c z8s) zw0 z4a (fun s => by kernel_rfl)
def zz0 : Shp := ⟨1, 0, [(0, .d c10)], []⟩
def z15p : XS := .one .ret zz0.xe
theorem z1fl : z15p.OK := XS.one_ok (z0c zz0)
def zr6 (l : List T3) : Option (((List T3))) :=
 z0u (List.length l) (
 bif Nat.beq 0 (List.length ([] : List T3)) then
 (loopC z4a (l, (List.length l : Nat), 0, ([] : List T3))).bind fun o =>
 winK o 0 (List.length o) fun w =>
 some w
 else none)
def z16v : Sig := ⟨89, [.d c10], [], 0, z15p⟩
def z13f (x : (List T3)) : Option (((List T3))) := zr6 x
theorem z1k0 : FnOK Try.prog z16v z13f :=
 fn_ok zys (h := (.two .no (.two .no (.two (.two .no (.over (loopD z8s.xe z8t (loopC z4a)))) .no)))) Try.func89 (z0p [.den (.loop (subC (bodyC Try.f89) [1, 1, 0, 1, 0, 0])) (loopD z8s.xe z8t (loopC z4a))] (by kernel_rfl) ⟨zxa, trivial⟩) (by kernel_rfl) z1fl (fun x => by kernel_rfl)
def z1ek : Env := ⟨[(entQ z1fp z1bh)], [], []⟩
theorem z1bs : EnvsOK Try.prog z1ek := ⟨z0o (z0q z1mu) (z0w _), z0s _, z0t _⟩
def zu4 : Shp := ⟨1, 0, [(0, .d .bool)], []⟩
def zx5 : XS := .one .ret zu4.xe
theorem z19m : zx5.OK := XS.one_ok (z0c zu4)
def zkl (v : T3) (t1 : List Int) : Option ((Bool)) :=
 (z10v t1 v.1).bind fun r =>
 some (!r)
def zwt : Sig := ⟨90, [.d c11, .rf (.d c1)], [], 0, zx5⟩
def zux (x : T3 × (List Int)) : Option ((Bool)) := zkl x.1 x.2
theorem z1e2 : FnOK Try.prog zwt zux :=
 fn_ok z1bs (h := .no) Try.func90 (z0p [] (by kernel_rfl) trivial) (by kernel_rfl) z19m (fun x => by kernel_rfl)
def z1b7 : Env := ⟨[(entQ zwt zux)], [], []⟩
theorem zpy : EnvsOK Try.prog z1b7 := ⟨z0o (z0q z1e2) (z0w _), z0s _, z0t _⟩
def zhq : Shp := ⟨19, 0, [], []⟩
def zhu : Shp := ⟨19, 0, [(4, .d (.int .i64))], []⟩
def z6e : XS := .or (.exit 0) zhq.xe (.one .ret zhu.xe)
theorem zsq : z6e.OK := XS.or_ok (z0c zhq) (XS.one_ok (z0c zhu))
def z6b : Shp := ⟨19, 0, [(0, .d c10), (1, .fn 90 [.rf (.d c1)]), (7, .d (.int .i64)), (8, .d (.int .i64))], []⟩
abbrev zdz := (List T3) × (List Int) × Int × Int
abbrev zjh := (Unit) ⊕ (Int)
def zdo (t0 : List T3) (f : List Int) (t7 : Int) (t8 : Int) : Option (zdz ⊕ zjh) :=
 bif ltI t8 t7 then
 (idxI t0 t8).bind fun x =>
 (zkl x f).bind fun r =>
 bif r then
 some (.inr (.inr t8))
 else
 some (.inl (t0, f, t7, W64 (t8 + 1)))
 else
 some (.inr (.inl ()))
def z2r (s : zdz) : Option (zdz ⊕ zjh) := zdo s.1 s.2.1 s.2.2.1 s.2.2.2
theorem ztz : SoundD Try.prog (.loop (subC (bodyC Try.f86) [1, 0, 1, 0, 0])) (loopD z6b.xe z6e (loopC z2r)) :=
 z0v (S := z6b.xe) (X := z6e) zpy (h := .no) (z0p [] (by kernel_rfl) trivial) (z0c z6b) zsq z2r (fun s => by kernel_rfl)
def zpr : Shp := ⟨1, 0, [(0, .d (.int .i64))], []⟩
def ztf : XS := .one .ret zpr.xe
theorem z14o : ztf.OK := XS.one_ok (z0c zpr)
def zhf (t0 : List T3) (f : List Int) : Option ((Int)) :=
 z0u (List.length t0) (
 (loopC z2r (t0, f, (List.length t0 : Nat), 0)).bind fun o =>
 Sum.elim (fun y =>
 some (-1)) (fun y2 =>
 some y2) o)
def zuc : Sig := ⟨86, [.d c10, .fn 90 [.rf (.d c1)]], [], 0, ztf⟩
def zsj (x : (List T3) × (List Int)) : Option ((Int)) := zhf x.1 x.2
theorem z1a2 : FnOK Try.prog zuc zsj :=
 fn_ok zpy (h := (.two .no (.two (.two .no (.over (loopD z6b.xe z6e (loopC z2r)))) .no))) Try.func86 (z0p [.den (.loop (subC (bodyC Try.f86) [1, 0, 1, 0, 0])) (loopD z6b.xe z6e (loopC z2r))] (by kernel_rfl) ⟨ztz, trivial⟩) (by kernel_rfl) z14o (fun x => by kernel_rfl)
def z18z : Env := ⟨[(entQ zuc zsj)], [], []⟩
theorem z14q : EnvsOK Try.prog z18z := ⟨z0o (z0q z1a2) (z0w _), z0s _, z0t _⟩
def zpd : Shp := ⟨1, 0, [(0, .d .bool)], []⟩
def zrv : XS := .one .ret zpd.xe
theorem z11u : zrv.OK := XS.one_ok (z0c zpd)
def zm2 (t0 : List T3) (f : List Int) : Option ((Bool)) :=
 (zhf t0 f).bind fun r =>
 some (leI 0 r)
def zrt : Sig := ⟨88, [.d c10, .fn 90 [.rf (.d c1)]], [], 0, zrv⟩
def zqk (x : (List T3) × (List Int)) : Option ((Bool)) := zm2 x.1 x.2
theorem z17h : FnOK Try.prog zrt zqk :=
 fn_ok z14q (h := .no) Try.func88 (z0p [] (by kernel_rfl) trivial) (by kernel_rfl) z11u (fun x => by kernel_rfl)
def z1kr : Env := ⟨[(entQ z16v z13f), (entQ zrt zqk)], [], []⟩
theorem z1f8 : EnvsOK Try.prog z1kr := ⟨z0o (z0q z1k0) (z0o (z0q z17h) (z0w _)), z0s _, z0t _⟩
def zxe : Shp := ⟨1, 0, [(0, .d .bool)], []⟩
def z12r : XS := .one .ret zxe.xe
theorem z1dz : z12r.OK := XS.one_ok (z0c zxe)
def zon (l : List T3) (seen : List Int) : Option ((Bool)) :=
 (zr6 l).bind fun r =>
 (zm2 r seen).bind fun r2 =>
 some r2
def z12d : Sig := ⟨70, [.d c10, .d c1], [], 0, z12r⟩
def zyh (x : (List T3) × (List Int)) : Option ((Bool)) := zon x.1 x.2
theorem z1hs : FnOK Try.prog z12d zyh :=
 fn_ok z1f8 (h := .no) Try.func70 (z0p [] (by kernel_rfl) trivial) (by kernel_rfl) z1dz (fun x => by kernel_rfl)
def z1kb : Env := ⟨[], [], []⟩
theorem z1gu : EnvsOK Try.prog z1kb := ⟨z0w _, z0s _, z0t _⟩
def zxg : Shp := ⟨1, 0, [(0, .d .bool)], []⟩
def z13p : XS := .one .ret zxg.xe
theorem z1e0 : z13p.OK := XS.one_ok (z0c zxg)
def zop (x : T2) (t1 : T4) : Option ((Bool)) :=
 bif eqU c0 x.2.2.2.1 t1.1 then
 some true
 else
 some (eqU c0 x.2.1 t1.1)
def z11r : Sig := ⟨72, [.d c6, .rf (.d c14)], [], 0, z13p⟩
def zyi (x : T2 × T4) : Option ((Bool)) := zop x.1 x.2
theorem z1hv : FnOK Try.prog z11r zyi :=
 fn_ok z1gu (h := .no) Try.func72 (z0p [] (by kernel_rfl) trivial) (by kernel_rfl) z1e0 (fun x => by kernel_rfl)
def z1br : Env := ⟨[(entQ z11r zyi)], [], []⟩
theorem zq1 : EnvsOK Try.prog z1br := ⟨z0o (z0q z1hv) (z0w _), z0s _, z0t _⟩
def zho : Shp := ⟨19, 0, [], []⟩
def zhs : Shp := ⟨19, 0, [(4, .d (.int .i64))], []⟩
def z6n : XS := .or (.exit 0) zho.xe (.one .ret zhs.xe)
theorem zso : z6n.OK := XS.or_ok (z0c zho) (XS.one_ok (z0c zhs))
def z6r : Shp := ⟨19, 0, [(0, .d c5), (1, .fn 72 [.rf (.d c14)]), (7, .d (.int .i64)), (8, .d (.int .i64))], []⟩
abbrev zdv := (List T2) × T4 × Int × Int
abbrev zjf := (Unit) ⊕ (Int)
def zdy (t0 : List T2) (f : T4) (t7 : Int) (t8 : Int) : Option (zdv ⊕ zjf) :=
 bif ltI t8 t7 then
 (idxI t0 t8).bind fun x =>
 (zop x f).bind fun r =>
 bif r then
 some (.inr (.inr t8))
 else
 some (.inl (t0, f, t7, W64 (t8 + 1)))
 else
 some (.inr (.inl ()))
def z2q (s : zdv) : Option (zdv ⊕ zjf) := zdy s.1 s.2.1 s.2.2.1 s.2.2.2
theorem zuh : SoundD Try.prog (.loop (subC (bodyC Try.f85) [1, 0, 1, 0, 0])) (loopD z6r.xe z6n (loopC z2q)) :=
 z0v (S := z6r.xe) (X := z6n) zq1 (h := .no) (z0p [] (by kernel_rfl) trivial) (z0c z6r) zso z2q (fun s => by kernel_rfl)
def zpt : Shp := ⟨1, 0, [(0, .d (.int .i64))], []⟩
def ztj : XS := .one .ret zpt.xe
theorem z14k : ztj.OK := XS.one_ok (z0c zpt)
def zhd (t0 : List T2) (f : T4) : Option ((Int)) :=
 z0u (List.length t0) (
 (loopC z2q (t0, f, (List.length t0 : Nat), 0)).bind fun o =>
 Sum.elim (fun y =>
 some (-1)) (fun y2 =>
 some y2) o)
def zu3 : Sig := ⟨85, [.d c5, .fn 72 [.rf (.d c14)]], [], 0, ztj⟩
def zsc (x : (List T2) × T4) : Option ((Int)) := zhd x.1 x.2
theorem z18m : FnOK Try.prog zu3 zsc :=
 fn_ok zq1 (h := (.two .no (.two (.two .no (.over (loopD z6r.xe z6n (loopC z2q)))) .no))) Try.func85 (z0p [.den (.loop (subC (bodyC Try.f85) [1, 0, 1, 0, 0])) (loopD z6r.xe z6n (loopC z2q))] (by kernel_rfl) ⟨zuh, trivial⟩) (by kernel_rfl) z14k (fun x => by kernel_rfl)
def z14j : Env := ⟨[(entQ zu3 zsc)], [], []⟩
theorem zza : EnvsOK Try.prog z14j := ⟨z0o (z0q z18m) (z0w _), z0s _, z0t _⟩
def zmd : Shp := ⟨1, 0, [(0, .d .bool)], []⟩
def zp2 : XS := .one .ret zmd.xe
theorem zxx : zp2.OK := XS.one_ok (z0c zmd)
def zet (t0 : List T2) (f : T4) : Option ((Bool)) :=
 (zhd t0 f).bind fun r =>
 some (leI 0 r)
def zpe : Sig := ⟨71, [.d c5, .fn 72 [.rf (.d c14)]], [], 0, zp2⟩
def znk (x : (List T2) × T4) : Option ((Bool)) := zet x.1 x.2
theorem z11n : FnOK Try.prog zpe znk :=
 fn_ok zza (h := .no) Try.func71 (z0p [] (by kernel_rfl) trivial) (by kernel_rfl) zxx (fun x => by kernel_rfl)
def z1nx : Env := ⟨[(entQ z1fp z1bh), (entQ z1pp z1ms), (entQ z12d zyh), (entQ zpe znk)], [], []⟩
theorem z12a : EnvsOK Try.prog z1nx := ⟨z0o (z0q z1mu) (z0o (z0q z1wq) (z0o (z0q z1hs) (z0o (z0q z11n) (z0w _)))), z0s _, z0t _⟩
def zlk : Shp := ⟨45, 0, [(3, .pt 0 r15 []), (4, .pt 1 r13 [])], [.var 33 (.d c17), .var 49 (.d c14)]⟩
def zla : Shp := ⟨45, 0, [(6, .d .bool)], []⟩
def z9l : XS := .or (.exit 0) zlk.xe (.one .ret zla.xe)
theorem zx2 : z9l.OK := XS.or_ok (z0c zlk) (XS.one_ok (z0c zla))
def z9j : Shp := ⟨45, 0, [(3, .pt 0 r15 []), (4, .pt 1 r13 []), (5, .pt 2 (.one (.arr 8 .leaf)) []), (29, .d c10), (30, .d (.int .i64)), (31, .d (.int .i64))], [.var 33 (.d c17), .var 49 (.d c14), .var 25 (.d c1)]⟩
abbrev zgk := (List T3) × Int × Int × T5 × T4 × (List Int)
abbrev zns := (T5 × T4) ⊕ (Bool)
def zgl (t29 : List T3) (t30 : Int) (t31 : Int) (t3 : T5) (o : T4) (base : List Int) : Option (zgk ⊕ zns) :=
 bif ltI t31 t30 then
 (idxI t29 t31).bind fun x =>
 (z10v base x.1).bind fun r =>
 bif !r then
 some (.inr (.inr true))
 else
 some (.inl (t29, t30, W64 (t31 + 1), t3, o, base))
 else
 some (.inr (.inl (t3, o)))
def z3d (s : zgk) : Option (zgk ⊕ zns) := zgl s.1 s.2.1 s.2.2.1 s.2.2.2.1 s.2.2.2.2.1 s.2.2.2.2.2
theorem zy8 : SoundD Try.prog (.loop (subC (bodyC Try.f40) [1, 1, 0, 1, 0, 0])) (loopD z9j.xe z9l (loopC z3d)) :=
 z0v (S := z9j.xe) (X := z9l) z12a (h := .no) (z0p [] (by kernel_rfl) trivial) (z0c z9j) zx2 z3d (fun s => by kernel_rfl)
def z11i : Shp := ⟨1, 0, [(0, .d .bool)], []⟩
def z1as : XS := .one .ret z11i.xe
theorem z1i1 : z1as.OK := XS.one_ok (z0c z11i)
def znt (t0 : T5) (o : T4) (base : List Int) : Option ((Bool)) :=
 (z10v base o.1).bind fun r =>
 bif !r then
 some true
 else
 (z1hq o.2.2.2.2.1 base).bind fun r2 =>
 bif !r2 then
 some true
 else
 (zon o.2.2.2.2.2 o.2.2.2.2.1).bind fun r3 =>
 bif r3 then
 some true
 else
 z0u (List.length o.2.2.2.2.2) (
 (loopC z3d (o.2.2.2.2.2, (List.length o.2.2.2.2.2 : Nat), 0, t0, o, base)).bind fun o2 =>
 Sum.elim (fun y =>
 (zet y.1.2.2.1 y.2).bind fun r4 =>
 some r4) (fun y2 =>
 some y2) o2)
def zvb : Sig := ⟨40, [.d c17, .d c14, .d c1], [], 0, z1as⟩
def zt7 (x : T5 × T4 × (List Int)) : Option ((Bool)) := znt x.1 x.2.1 x.2.2
theorem z16i : FnOK Try.prog zvb zt7 :=
 fn_ok z12a (h := (.two .no (.two .no (.two (.two .no (.over (loopD z9j.xe z9l (loopC z3d)))) .no)))) Try.func40 (z0p [.den (.loop (subC (bodyC Try.f40) [1, 1, 0, 1, 0, 0])) (loopD z9j.xe z9l (loopC z3d))] (by kernel_rfl) ⟨zy8, trivial⟩) (by kernel_rfl) z1i1 (fun x => by kernel_rfl)
def z1i0 : Env := ⟨[(entQ zvb zt7)], [], []⟩
theorem z1e7 : EnvsOK Try.prog z1i0 := ⟨z0o (z0q z16i) (z0w _), z0s _, z0t _⟩
def zv2 : Shp := ⟨1, 0, [(0, .d .bool)], []⟩
def zyu : XS := .one .ret zv2.xe
theorem z1c5 : zyu.OK := XS.one_ok (z0c zv2)
def zhg (o : T4) (t1 : List Int) (t12 : List T4) (t13 : List T2) (t14 : List Int) (t15 : List Bool) (t2 : List Int) : Option ((Bool)) :=
 (znt (t1, t12, t13, t14, t15) o t2).bind fun r =>
 some (!r)
def zpj : Sig := ⟨39, [.d c14, .rf (.ag [.d c1, .d c18, .d c5, .d c16, .d (.arr 8 .bool)]), .rf (.d c1)], [], 0, zyu⟩
def zni (x : T4 × (List Int) × (List T4) × (List T2) × (List Int) × (List Bool) × (List Int)) : Option ((Bool)) := zhg x.1 x.2.1 x.2.2.1 x.2.2.2.1 x.2.2.2.2.1 x.2.2.2.2.2.1 x.2.2.2.2.2.2
theorem zx9 : FnOK Try.prog zpj zni :=
 fn_ok z1e7 (h := .no) Try.func39 (z0p [] (by kernel_rfl) trivial) (by kernel_rfl) z1c5 (fun x => by kernel_rfl)
def z1cb : Env := ⟨[(entQ zpj zni)], [], []⟩
theorem zq4 : EnvsOK Try.prog z1cb := ⟨z0o (z0q zx9) (z0w _), z0s _, z0t _⟩
def zhm : Shp := ⟨19, 0, [], []⟩
def zhr : Shp := ⟨19, 0, [(4, .d (.int .i64))], []⟩
def z6q : XS := .or (.exit 0) zhm.xe (.one .ret zhr.xe)
theorem zsp : z6q.OK := XS.or_ok (z0c zhm) (XS.one_ok (z0c zhr))
def z6k : Shp := ⟨19, 0, [(0, .d c18), (1, .fn 39 [.rf (.ag [.d c1, .d c18, .d c5, .d c16, .d (.arr 8 .bool)]), .rf (.d c1)]), (7, .d (.int .i64)), (8, .d (.int .i64))], []⟩
abbrev zdx := (List T4) × (List Int) × (List T4) × (List T2) × (List Int) × (List Bool) × (List Int) × Int × Int
abbrev zjv := (Unit) ⊕ (Int)
def zdu (t0 : List T4) (f : List Int) (f2 : List T4) (f3 : List T2) (f4 : List Int) (f5 : List Bool) (f6 : List Int) (t7 : Int) (t8 : Int) : Option (zdx ⊕ zjv) :=
 bif ltI t8 t7 then
 (idxI t0 t8).bind fun x =>
 (zhg x f f2 f3 f4 f5 f6).bind fun r =>
 bif r then
 some (.inr (.inr t8))
 else
 some (.inl (t0, f, f2, f3, f4, f5, f6, t7, W64 (t8 + 1)))
 else
 some (.inr (.inl ()))
def z2m (s : zdx) : Option (zdx ⊕ zjv) := zdu s.1 s.2.1 s.2.2.1 s.2.2.2.1 s.2.2.2.2.1 s.2.2.2.2.2.1 s.2.2.2.2.2.2.1 s.2.2.2.2.2.2.2.1 s.2.2.2.2.2.2.2.2
theorem zt1 : SoundD Try.prog (.loop (subC (bodyC Try.f68) [1, 0, 1, 0, 0])) (loopD z6k.xe z6q (loopC z2m)) :=
 z0v (S := z6k.xe) (X := z6q) zq4 (h := .no) (z0p [] (by kernel_rfl) trivial) (z0c z6k) zsp z2m (fun s => by kernel_rfl)
def zqa : Shp := ⟨1, 0, [(0, .d (.int .i64))], []⟩
def zt9 : XS := .one .ret zqa.xe
theorem z14n : zt9.OK := XS.one_ok (z0c zqa)
def zha (t0 : List T4) (f : List Int) (f2 : List T4) (f3 : List T2) (f4 : List Int) (f5 : List Bool) (f6 : List Int) : Option ((Int)) :=
 z0u (List.length t0) (
 (loopC z2m (t0, f, f2, f3, f4, f5, f6, (List.length t0 : Nat), 0)).bind fun o =>
 Sum.elim (fun y =>
 some (-1)) (fun y2 =>
 some y2) o)
def ztc : Sig := ⟨68, [.d c18, .fn 39 [.rf (.ag [.d c1, .d c18, .d c5, .d c16, .d (.arr 8 .bool)]), .rf (.d c1)]], [], 0, zt9⟩
def zs2 (x : (List T4) × (List Int) × (List T4) × (List T2) × (List Int) × (List Bool) × (List Int)) : Option ((Int)) := zha x.1 x.2.1 x.2.2.1 x.2.2.2.1 x.2.2.2.2.1 x.2.2.2.2.2.1 x.2.2.2.2.2.2
theorem z18p : FnOK Try.prog ztc zs2 :=
 fn_ok zq4 (h := (.two .no (.two (.two .no (.over (loopD z6k.xe z6q (loopC z2m)))) .no))) Try.func68 (z0p [.den (.loop (subC (bodyC Try.f68) [1, 0, 1, 0, 0])) (loopD z6k.xe z6q (loopC z2m))] (by kernel_rfl) ⟨zt1, trivial⟩) (by kernel_rfl) z14n (fun x => by kernel_rfl)
def z1am : Env := ⟨[(entQ ztc zs2), (entQ zpj zni)], [], []⟩
theorem zp4 : EnvsOK Try.prog z1am := ⟨z0o (z0q z18p) (z0o (z0q zx9) (z0w _)), z0s _, z0t _⟩
def zew : Shp := ⟨42, 3, [(0, .wn 0 c14), (5, .d (.int .i64))], [.row 49 c14, .var 33 (.ag [.d c1, .wn 0 c14, .ws 3 c6, .d c16, .d (.arr 8 .bool)]), .var 25 (.d c1), .row 45 c6]⟩
def z4m : XS := .one (.exit 0) zew.xe
theorem zn3 : z4m.OK := XS.one_ok (z0c zew)
def z4f : Shp := ⟨42, 3, [(0, .wn 0 c14), (1, .fn 39 [.pt 1 r15 [], .pt 2 (.one (.arr 8 .leaf)) []]), (5, .d (.int .i64)), (6, .d (.int .i64))], [.row 49 c14, .var 33 (.ag [.d c1, .wn 0 c14, .ws 3 c6, .d c16, .d (.arr 8 .bool)]), .var 25 (.d c1), .row 45 c6]⟩
abbrev zbg := Int × Int × (List T4) × (List Int) × (List Bool) × (List Int) × (List Bool) × (List Int) × (List T2)
abbrev zfx := (Int × (List T4) × (List Int) × (List Bool) × (List Int) × (List Bool) × (List Int) × (List T2))
def zb2 (i : Int) (j : Int) (t0 : List T4) (del : List Int) (del2 : List Bool) (del3 : List Int) (del4 : List Bool) (del5 : List Int) (del6 : List T2) : Option (zbg ⊕ zfx) :=
 z0u (List.length t0) (
 bif ltI j (List.length t0 : Nat) then
 bif inI j (List.length t0) then
 (t0[j.toNat]?).bind fun x =>
 winK t0 0 (List.length t0) fun w =>
 winK del6 0 (lenW del2) fun w2 =>
 (zhg x del w w2 del3 del4 del5).bind fun r =>
 bif !r then
 bif inI i (List.length t0) then
 (t0[i.toNat]?).bind fun _x =>
 bif Nat.beq (List.length t0) (List.length (t0.set i.toNat x)) then
 bif Nat.beq (List.length t0) (List.length (t0.set i.toNat x)) then
 some (.inl (W64 (i + 1), W64 (j + 1), t0.set i.toNat x, del, (List.replicate (lenW del2) true), del3, del4, del5, del6))
 else none
 else none
 else none
 else
 bif Nat.beq (List.length t0) (List.length t0) then
 bif Nat.beq (List.length t0) (List.length t0) then
 some (.inl (i, W64 (j + 1), t0, del, (List.replicate (lenW del2) true), del3, del4, del5, del6))
 else none
 else none
 else none
 else
 bif Nat.beq (List.length t0) (List.length t0) then
 bif Nat.beq (List.length t0) (List.length t0) then
 some (.inr (i, t0, del, (List.replicate (lenW del2) true), del3, del4, del5, del6))
 else none
 else none)
def z1s (s : zbg) : Option (zbg ⊕ zfx) := zb2 s.1 s.2.1 s.2.2.1 s.2.2.2.1 s.2.2.2.2.1 s.2.2.2.2.2.1 s.2.2.2.2.2.2.1 s.2.2.2.2.2.2.2.1 s.2.2.2.2.2.2.2.2
theorem zoh : SoundD Try.prog (.loop (subC (bodyC Try.f38) [1, 1, 1, 0, 1, 0, 0])) (loopD z4f.xe z4m (loopC z1s)) :=
 z0v (S := z4f.xe) (X := z4m) zp4 (h := .no) (z0p [] (by kernel_rfl) trivial) (z0c z4f) zn3 z1s (fun s => by kernel_rfl)
def zpf : Shp := ⟨1, 3, [(0, .ws 0 c14)], [.row 49 c14, .var 33 (.ag [.d c1, .wn 0 c14, .ws 3 c6, .d c16, .d (.arr 8 .bool)]), .var 25 (.d c1), .row 45 c6]⟩
def zsd : XS := .one .ret zpf.xe
theorem z11y : zsd.OK := XS.one_ok (z0c zpf)
def zgm (t0 : List T4) (del : List Int) (del2 : List Bool) (del3 : List Int) (del4 : List Bool) (del5 : List Int) (del6 : List T2) : Option (((List Bool) × (List T4) × (List Int) × (List Bool) × (List Int) × (List Bool) × (List Int) × (List T2))) :=
 winK t0 0 (List.length t0) fun w =>
 winK t0 0 (List.length t0) fun w2 =>
 winK del6 0 (lenW del2) fun w3 =>
 (zha w del w2 w3 del3 del4 del5).bind fun r =>
 bif eqI r (-1) then
 bif Nat.beq (List.length t0) (List.length t0) then
 some ((List.replicate (List.length t0) true), t0, del, (List.replicate (lenW del2) true), del3, del4, del5, del6)
 else none
 else
 bif Nat.beq (List.length t0) (List.length t0) then
 bif Nat.beq (List.length t0) (List.length t0) then
 (loopC z1s (r, W64 (r + 1), t0, del, (List.replicate (lenW del2) true), del3, del4, del5, del6)).bind fun o =>
 bif subOk o.1 (List.length o.2.1 : Nat) (List.length o.2.1) then
 bif Nat.ble (addN o.1.toNat ((List.length o.2.1) - o.1.toNat)) (List.length o.2.1) then
 bif subOk 0 o.1 (List.length o.2.1) then
 bif Nat.beq (List.length o.2.1) (List.length (cpyL o.2.1 o.1.toNat ((List.length o.2.1) - o.1.toNat) (List.replicate ((List.length o.2.1) - o.1.toNat) (((0 : Int), (0 : Int)), false, ((0 : Int), (0 : Int)), ([] : List Int), List.replicate 8 (0 : Int), ([] : List T3))))) then
 some (((List.replicate o.1.toNat true), cpyL o.2.1 o.1.toNat ((List.length o.2.1) - o.1.toNat) (List.replicate ((List.length o.2.1) - o.1.toNat) (((0 : Int), (0 : Int)), false, ((0 : Int), (0 : Int)), ([] : List Int), List.replicate 8 (0 : Int), ([] : List T3))), o.2.2.1, (List.replicate (lenW o.2.2.2.1) true), o.2.2.2.2.1, o.2.2.2.2.2.1, o.2.2.2.2.2.2.1, o.2.2.2.2.2.2.2))
 else none
 else none
 else none
 else none
 else none
 else none
def zsb : Sig := ⟨38, [.wn 0 c14, .fn 39 [.pt 1 r15 [], .pt 2 (.one (.arr 8 .leaf)) []]], [.row 49 c14, .var 33 (.ag [.d c1, .wn 0 c14, .ws 3 c6, .d c16, .d (.arr 8 .bool)]), .var 25 (.d c1), .row 45 c6], 3, zsd⟩
def zqb (x : (List T4) × (List Int) × (List Bool) × (List Int) × (List Bool) × (List Int) × (List T2)) : Option (((List Bool) × (List T4) × (List Int) × (List Bool) × (List Int) × (List Bool) × (List Int) × (List T2))) := zgm x.1 x.2.1 x.2.2.1 x.2.2.2.1 x.2.2.2.2.1 x.2.2.2.2.2.1 x.2.2.2.2.2.2
theorem z17y : FnOK Try.prog zsb zqb :=
 fn_ok zp4 (h := (.two .no (.two .no (.two .no (.two (.two .no (.over (loopD z4f.xe z4m (loopC z1s)))) .no))))) Try.func38 (z0p [.den (.loop (subC (bodyC Try.f38) [1, 1, 1, 0, 1, 0, 0])) (loopD z4f.xe z4m (loopC z1s))] (by kernel_rfl) ⟨zoh, trivial⟩) (by kernel_rfl) z11y (fun x => by kernel_rfl)
def z1lw : Env := ⟨[(entQ z15n z11c)], [(entP z15e z12b), (entP z16o z13y), (entP zsb zqb)], []⟩
theorem zz9 : EnvsOK Try.prog z1lw := ⟨z0o (z0q z1jw) (z0w _), zca (zg2 z1l0) (zca (zg2 z1kx) (zca (zg2 z17y) (z0s _))), z0t _⟩
def zj3 : Shp := ⟨41, 0, [(3, .pt 0 (.one (.arr 8 .leaf)) []), (4, .pt 1 r15 []), (5, .pt 2 r15 [])], [.var 25 (.d c1), .var 33 (.ag [.d c1, .wn 3 c14, .wn 4 c6, .d c16, .d (.arr 8 .bool)]), .var 33 (.ag [.d c1, .wn 5 c14, .ws 6 c6, .d c16, .d (.arr 8 .bool)]), .row 49 c14, .row 45 c6, .row 49 c14, .row 45 c6]⟩
def z6x : XS := .one (.exit 0) zj3.xe
theorem zug : z6x.OK := XS.one_ok (z0c zj3)
def z7e : Shp := ⟨41, 0, [(3, .pt 0 (.one (.arr 8 .leaf)) []), (4, .pt 1 r15 []), (5, .pt 2 r15 []), (17, .d (.int .i64)), (18, .d (.int .i64))], [.var 25 (.d c1), .var 33 (.ag [.d c1, .wn 3 c14, .wn 4 c6, .d c16, .d (.arr 8 .bool)]), .var 33 (.ag [.d c1, .wn 5 c14, .ws 6 c6, .d c16, .d (.arr 8 .bool)]), .row 49 c14, .row 45 c6, .row 49 c14, .row 45 c6]⟩
abbrev zel := Int × Int × (List Int) × (List Int) × (List Int) × (List Bool) × (List Int) × (List Bool) × (List Int) × (List Bool) × (List T4) × (List T2) × (List T4) × (List T2)
abbrev zk3 := ((List Int) × (List Int) × (List Int) × (List Bool) × (List Int) × (List Bool) × (List Int) × (List Bool) × (List T4) × (List T2) × (List T4) × (List T2))
def ze5 (t17 : Int) (t18 : Int) (base : List Int) (t4 : List Int) (t42 : List Int) (t43 : List Bool) (out : List Int) (out2 : List Bool) (out3 : List Int) (out4 : List Bool) (t44 : List T4) (t45 : List T2) (out5 : List T4) (out6 : List T2) : Option (zel ⊕ zk3) :=
 bif ltI t18 t17 then
 bif inI t18 (List.length out5) then
 (out5[t18.toNat]?).bind fun x =>
 (zr8 x.2.2.2.2.2 base).bind fun r =>
 (out5[t18.toNat]?).bind fun x2 =>
 bif Nat.beq (List.length t44) (List.length t44) then
 bif Nat.beq (List.length t45) (List.length t45) then
 bif Nat.beq (List.length out5) (List.length (out5.set t18.toNat (x2.1, x2.2.1, x2.2.2.1, x2.2.2.2.1, x2.2.2.2.2.1, r))) then
 some (.inl (t17, W64 (t18 + 1), base, t4, t42, t43, out, (List.replicate (lenW out2) true), out3, out4, t44, t45, out5.set t18.toNat (x2.1, x2.2.1, x2.2.2.1, x2.2.2.2.1, x2.2.2.2.2.1, r), out6))
 else none
 else none
 else none
 else none
 else
 bif Nat.beq (List.length t44) (List.length t44) then
 bif Nat.beq (List.length t45) (List.length t45) then
 bif Nat.beq (List.length out5) (List.length out5) then
 some (.inr (base, t4, t42, t43, out, (List.replicate (lenW out2) true), out3, out4, t44, t45, out5, out6))
 else none
 else none
 else none
def z3k (s : zel) : Option (zel ⊕ zk3) := ze5 s.1 s.2.1 s.2.2.1 s.2.2.2.1 s.2.2.2.2.1 s.2.2.2.2.2.1 s.2.2.2.2.2.2.1 s.2.2.2.2.2.2.2.1 s.2.2.2.2.2.2.2.2.1 s.2.2.2.2.2.2.2.2.2.1 s.2.2.2.2.2.2.2.2.2.2.1 s.2.2.2.2.2.2.2.2.2.2.2.1 s.2.2.2.2.2.2.2.2.2.2.2.2.1 s.2.2.2.2.2.2.2.2.2.2.2.2.2
theorem zut : SoundD Try.prog (.loop (subC (bodyC Try.f12) [1, 1, 1, 0, 1, 0, 0])) (loopD z7e.xe z6x (loopC z3k)) :=
 z0v (S := z7e.xe) (X := z6x) zz9 (h := .no) (z0p [] (by kernel_rfl) trivial) (z0c z7e) zug z3k (fun s => by kernel_rfl)
def zyp : Shp := ⟨1, 0, [(0, .d c17)], []⟩
def z16c : XS := .one .ret zyp.xe
theorem z1em : z16c.OK := XS.one_ok (z0c zyp)
def zf3 (t0 : T5) (base : List Int) : Option ((T5)) :=
 (zre t0).bind fun r =>
 bif Nat.beq (List.length r.2.2.2.2) (List.length r.2.2.2.2) then
 (zr5 base r.2.2.2.2).bind fun r2 =>
 z0u (List.length r.2.2.2.1) (
 bif Nat.beq 0 (List.length ([] : List T4)) then
 bif Nat.beq 0 (List.length ([] : List T2)) then
 bif Nat.beq (List.length r.2.2.2.1) (List.length r.2.2.2.1) then
 (loopC z3k ((List.length r.2.2.2.1 : Nat), 0, base, List.replicate 8 (0 : Int), List.replicate 8 (0 : Int), List.replicate 8 false, r.1, (List.replicate (lenW r2.1) true), r.2.1, r.2.2.1, ([] : List T4), ([] : List T2), r.2.2.2.1, r2.2.2)).bind fun o =>
 bif Nat.beq (List.length o.2.2.2.2.2.2.2.2.2.2.1) (List.length o.2.2.2.2.2.2.2.2.2.2.1) then
 bif Nat.beq (List.length o.2.2.2.2.2.2.2.2.2.2.1) (List.length o.2.2.2.2.2.2.2.2.2.2.1) then
 (zgm o.2.2.2.2.2.2.2.2.2.2.1 o.2.2.2.2.1 (List.replicate (lenW o.2.2.2.2.2.1) true) o.2.2.2.2.2.2.1 o.2.2.2.2.2.2.2.1 o.1 o.2.2.2.2.2.2.2.2.2.2.2).bind fun r3 =>
 winK r3.2.1 0 (lenW r3.1) fun w =>
 winK r3.2.2.2.2.2.2.2 0 (lenW r3.2.2.2.1) fun w2 =>
 some (r3.2.2.1, w, w2, r3.2.2.2.2.1, r3.2.2.2.2.2.1)
 else none
 else none
 else none
 else none
 else none)
 else none
def zu1 : Sig := ⟨12, [.d c17, .d c1], [], 0, z16c⟩
def zrg (x : T5 × (List Int)) : Option ((T5)) := zf3 x.1 x.2
theorem z13s : FnOK Try.prog zu1 zrg :=
 fn_ok zz9 (h := (.two .no (.two .no (.two .no (.two (.two .no (.over (loopD z7e.xe z6x (loopC z3k)))) .no))))) Try.func12 (z0p [.den (.loop (subC (bodyC Try.f12) [1, 1, 1, 0, 1, 0, 0])) (loopD z7e.xe z6x (loopC z3k))] (by kernel_rfl) ⟨zut, trivial⟩) (by kernel_rfl) z1em (fun x => by kernel_rfl)
def z1qd : Env := ⟨[], [], []⟩
theorem z1m2 : EnvsOK Try.prog z1qd := ⟨z0w _, z0s _, z0t _⟩
def z14z : Shp := ⟨1, 0, [(0, .d .bool)], []⟩
def z1dd : XS := .one .ret z14z.xe
theorem z1k4 : z1dd.OK := XS.one_ok (z0c z14z)
def zw7 (x : T2) : Option ((Bool)) :=
 some (eqU c1 x.2.2.2.2 (List.replicate 8 (0 : Int)))
def z1dr : Sig := ⟨45, [.d c6], [], 0, z1dd⟩
def z1a7 (x : T2) : Option ((Bool)) := zw7 x
theorem z1o3 : FnOK Try.prog z1dr z1a7 :=
 fn_ok z1m2 (h := .no) Try.func45 (z0p [] (by kernel_rfl) trivial) (by kernel_rfl) z1k4 (fun x => by kernel_rfl)
def z1rl : Env := ⟨[(entQ z1dr z1a7), (entQ zvs ztn), (entQ zvb zt7)], [], []⟩
theorem zoo : EnvsOK Try.prog z1rl := ⟨z0o (z0q z1o3) (z0o (z0q z16k) (z0o (z0q z16i) (z0w _))), z0s _, z0t _⟩
def zo0 : Shp := ⟨53, 0, [(1, .pt 0 r15 []), (3, .d (.int .i64))], [.var 33 (.d c17)]⟩
def zbn : XS := .one (.exit 0) zo0.xe
theorem z10l : zbn.OK := XS.one_ok (z0c zo0)
def zb1 : Shp := ⟨53, 0, [(1, .pt 0 r15 []), (3, .d (.int .i64)), (11, .d c5), (12, .d (.int .i64)), (13, .d (.int .i64))], [.var 33 (.d c17)]⟩
abbrev zi7 := Int × (List T2) × Int × Int × T5
abbrev zq2 := (Int × T5)
def zi0 (n : Int) (t11 : List T2) (t12 : Int) (t13 : Int) (t1 : T5) : Option (zi7 ⊕ zq2) :=
 bif ltI t13 t12 then
 (idxI t11 t13).bind fun x =>
 (zw7 x).bind fun r =>
 bif !r then
 some (.inl (W64 (n + 1), t11, t12, W64 (t13 + 1), t1))
 else
 some (.inl (n, t11, t12, W64 (t13 + 1), t1))
 else
 some (.inr (n, t1))
def z4e (s : zi7) : Option (zi7 ⊕ zq2) := zi0 s.1 s.2.1 s.2.2.1 s.2.2.2.1 s.2.2.2.2
theorem z12f : SoundD Try.prog (.loop (subC (bodyC Try.f15) [1, 1, 0, 1, 0, 0])) (loopD zb1.xe zbn (loopC z4e)) :=
 z0v (S := zb1.xe) (X := zbn) zoo (h := .no) (z0p [] (by kernel_rfl) trivial) (z0c zb1) z10l z4e (fun s => by kernel_rfl)
def zbq : Shp := ⟨53, 0, [(1, .pt 0 r15 []), (3, .d (.int .i64)), (7, .pt 1 r13 []), (24, .d c18), (25, .d (.int .i64)), (26, .d (.int .i64))], [.var 33 (.d c17), .var 49 (.d c14)]⟩
def z2n : XS := .one (.exit 4) zbq.xe
theorem zht : z2n.OK := XS.one_ok (z0c zbq)
def z2p : Shp := ⟨53, 0, [(1, .pt 0 r15 []), (3, .d (.int .i64)), (7, .pt 1 r13 []), (24, .d c18), (25, .d (.int .i64)), (26, .d (.int .i64)), (31, .d c10), (32, .d (.int .i64)), (33, .d (.int .i64))], [.var 33 (.d c17), .var 49 (.d c14)]⟩
abbrev z6f := Int × (List T4) × Int × Int × (List T3) × Int × Int × T5 × T4
abbrev zcb := (Int × (List T4) × Int × Int × T5 × T4)
def z6p (n : Int) (t24 : List T4) (t25 : Int) (t26 : Int) (t31 : List T3) (t32 : Int) (t33 : Int) (t1 : T5) (o : T4) : Option (z6f ⊕ zcb) :=
 bif ltI t33 t32 then
 (idxI t31 t33).bind fun x =>
 (ztp x).bind fun r =>
 bif !r then
 some (.inl (W64 (n + 1), t24, t25, t26, t31, t32, W64 (t33 + 1), t1, o))
 else
 some (.inl (n, t24, t25, t26, t31, t32, W64 (t33 + 1), t1, o))
 else
 some (.inr (n, t24, t25, t26, t1, o))
def z1h (s : z6f) : Option (z6f ⊕ zcb) := z6p s.1 s.2.1 s.2.2.1 s.2.2.2.1 s.2.2.2.2.1 s.2.2.2.2.2.1 s.2.2.2.2.2.2.1 s.2.2.2.2.2.2.2.1 s.2.2.2.2.2.2.2.2
theorem zhz : SoundD Try.prog (.loop (subC (bodyC Try.f15) [1, 1, 1, 0, 1, 0, 0, 1, 1, 0, 0, 1, 0, 1, 0, 0])) (loopD z2p.xe z2n (loopC z1h)) :=
 z0v (S := z2p.xe) (X := z2n) zoo (h := .no) (z0p [] (by kernel_rfl) trivial) (z0c z2p) zht z1h (fun s => by kernel_rfl)
def zls : Shp := ⟨53, 0, [(3, .d (.int .i64))], []⟩
def z9n : XS := .one (.exit 2) zls.xe
theorem zxo : z9n.OK := XS.one_ok (z0c zls)
def z9w : Shp := ⟨53, 0, [(1, .pt 0 r15 []), (3, .d (.int .i64)), (24, .d c18), (25, .d (.int .i64)), (26, .d (.int .i64))], [.var 33 (.d c17)]⟩
abbrev zg5 := Int × (List T4) × Int × Int × T5
abbrev znn := (Int)
def zg6 (n : Int) (t24 : List T4) (t25 : Int) (t26 : Int) (t1 : T5) : Option (zg5 ⊕ znn) :=
 bif ltI t26 t25 then
 (idxI t24 t26).bind fun x =>
 z0u (List.length x.2.2.2.2.2) (
 (loopC z1h (n, t24, t25, t26, x.2.2.2.2.2, (List.length x.2.2.2.2.2 : Nat), 0, t1, x)).bind fun o =>
 (znt o.2.2.2.2.1 o.2.2.2.2.2 o.2.2.2.2.1.1).bind fun r =>
 bif !r then
 some (.inl (W64 (o.1 + 1), o.2.1, o.2.2.1, W64 (o.2.2.2.1 + 1), o.2.2.2.2.1))
 else
 some (.inl (o.1, o.2.1, o.2.2.1, W64 (o.2.2.2.1 + 1), o.2.2.2.2.1)))
 else
 some (.inr n)
def z4t (s : zg5) : Option (zg5 ⊕ znn) := zg6 s.1 s.2.1 s.2.2.1 s.2.2.2.1 s.2.2.2.2
theorem zxt : SoundD Try.prog (.loop (subC (bodyC Try.f15) [1, 1, 1, 0, 1, 0, 0])) (loopD z9w.xe z9n (loopC z4t)) :=
 z0v (S := z9w.xe) (X := z9n) zoo (h := (.two .no (.two .no (.two (.two .no (.two (.two .no (.over (loopD z2p.xe z2n (loopC z1h)))) .no)) .no)))) (z0p [.den (.loop (subC (bodyC Try.f15) [1, 1, 1, 0, 1, 0, 0, 1, 1, 0, 0, 1, 0, 1, 0, 0])) (loopD z2p.xe z2n (loopC z1h))] (by kernel_rfl) ⟨zhz, trivial⟩) (z0c z9w) zxo z4t (fun s => by kernel_rfl)
def z18y : Shp := ⟨1, 0, [(0, .d (.int .i64))], []⟩
def z1ff : XS := .one .ret z18y.xe
theorem z1mg : z1ff.OK := XS.one_ok (z0c z18y)
def zoi (t0 : T5) : Option ((Int)) :=
 z0u (List.length t0.2.2.1) (
 (loopC z4e (0, t0.2.2.1, (List.length t0.2.2.1 : Nat), 0, t0)).bind fun o =>
 z0u (List.length o.2.2.1) (
 (loopC z4t (o.1, o.2.2.1, (List.length o.2.2.1 : Nat), 0, o.2)).bind fun o2 =>
 some o2))
def z13o : Sig := ⟨15, [.d c17], [], 0, z1ff⟩
def zxq (x : T5) : Option ((Int)) := zoi x
theorem z1cu : FnOK Try.prog z13o zxq :=
 fn_ok zoo (h := (.two .no (.two .no (.two (.two .no (.over (loopD zb1.xe zbn (loopC z4e)))) (.two (.two .no (.over (loopD z9w.xe z9n (loopC z4t)))) .no))))) Try.func15 (z0p [.den (.loop (subC (bodyC Try.f15) [1, 1, 0, 1, 0, 0])) (loopD zb1.xe zbn (loopC z4e)), .den (.loop (subC (bodyC Try.f15) [1, 1, 1, 0, 1, 0, 0])) (loopD z9w.xe z9n (loopC z4t))] (by kernel_rfl) ⟨z12f, zxt, trivial⟩) (by kernel_rfl) z1mg (fun x => by kernel_rfl)
def z1qv : Env := ⟨[(entQ zxr zvh), (entQ zu1 zrg), (entQ z13o zxq)], [], []⟩
theorem z1ni : EnvsOK Try.prog z1qv := ⟨z0o (z0q z1ad) (z0o (z0q z13s) (z0o (z0q z1cu) (z0w _))), z0s _, z0t _⟩
def z15k : Shp := ⟨1, 0, [(0, .d .bool)], []⟩
def z1ch : XS := .one .ret z15k.xe
theorem z1km : z1ch.OK := XS.one_ok (z0c z15k)
def ze2  : Option ((Bool)) :=
 (zfu (([((1, 1), List.replicate 8 (0 : Int), 1, (0, 0), (0, 0), ([97] : List Int), [], [], 0, [], 0), ((1, 2), (List.replicate 8 (0 : Int)).set 0 1, 6, (1, 1), (0, 0), [], ([(1, 1)] : List T0), [], 0, [], 0)] : List T1))).bind fun r =>
 (zf3 r ((List.replicate 8 (0 : Int)).set 0 1)).bind fun r2 =>
 (zf3 r ((List.replicate 8 (0 : Int)).set 0 2)).bind fun r3 =>
 z0u (List.length r2.2.2.1) (
 bif eqI (List.length r2.2.2.1 : Nat) 1 then
 z0u (List.length r2.2.1) (
 bif eqI (List.length r2.2.1 : Nat) 1 then
 z0u (List.length r3.2.2.1) (
 z0u (List.length r3.2.1) (
 bif eqI (W64 ((List.length r3.2.2.1 : Nat) + (List.length r3.2.1 : Nat))) 0 then
 bif eqU c1 r3.1 r.1 then
 (zoi r).bind fun r4 =>
 some (eqI r4 1)
 else
 some false
 else
 some false))
 else
 some false)
 else
 some false)
def z1db : Sig := ⟨8, [], [], 0, z1ch⟩
def z1ar (x : Unit) : Option ((Bool)) := ze2 
theorem z1o0 : FnOK Try.prog z1db z1ar :=
 fn_ok z1ni (h := .no) Try.func8 (z0p [] (by kernel_rfl) trivial) (by kernel_rfl) z1km (fun x => by kernel_rfl)
def z1r5 : Env := ⟨[], [], []⟩
theorem z17a : EnvsOK Try.prog z1r5 := ⟨z0w _, z0s _, z0t _⟩
def zgh : Shp := ⟨41, 0, [(2, .pt 0 (.one (.arr 8 .leaf)) []), (3, .pt 1 (.one (.arr 8 .leaf)) []), (5, .d .bool), (6, .d .bool), (7, .d (.int .i64))], [.var 25 (.d c1), .var 25 (.d c1)]⟩
def zcl : XS := .one .normal zgh.xe
theorem zq3 : zcl.OK := XS.one_ok (z0c zgh)
def zmg : Shp := ⟨41, 0, [(5, .d .bool), (6, .d .bool)], []⟩
def zac : XS := .one (.exit 0) zmg.xe
theorem zy5 : zac.OK := XS.one_ok (z0c zmg)
def zad : Shp := ⟨41, 0, [(2, .pt 0 (.one (.arr 8 .leaf)) []), (3, .pt 1 (.one (.arr 8 .leaf)) []), (5, .d .bool), (6, .d .bool), (7, .d (.int .i64))], [.var 25 (.d c1), .var 25 (.d c1)]⟩
abbrev zh3 := Bool × Bool × Int × (List Int) × (List Int)
abbrev zp9 := (Bool × Bool)
def zgw (less : Bool) (more : Bool) (i : Int) (a : List Int) (b : List Int) : Option (zh3 ⊕ zp9) :=
 bif ltI i 8 then
 (show Option ((Bool × Bool × Int × (List Int) × (List Int))) from
 bif less then
 some (true, more, i, a, b)
 else
 bif inI i 8 then
 (a[i.toNat]?).bind fun x =>
 bif inI i 8 then
 (b[i.toNat]?).bind fun x2 =>
 some (ltI x x2, more, i, a, b)
 else none
 else none).bind fun j =>
 bif j.2.1 then
 some (.inl (j.1, true, W64 (j.2.2.1 + 1), j.2.2.2.1, j.2.2.2.2))
 else
 bif inI j.2.2.1 8 then
 (j.2.2.2.1[j.2.2.1.toNat]?).bind fun x3 =>
 bif inI j.2.2.1 8 then
 (j.2.2.2.2[j.2.2.1.toNat]?).bind fun x4 =>
 some (.inl (j.1, ltI x4 x3, W64 (j.2.2.1 + 1), j.2.2.2.1, j.2.2.2.2))
 else none
 else none
 else
 some (.inr (less, more))
def z5f (s : zh3) : Option (zh3 ⊕ zp9) := zgw s.1 s.2.1 s.2.2.1 s.2.2.2.1 s.2.2.2.2
theorem zzq : SoundD Try.prog (.loop (subC (bodyC Try.f52) [1, 1, 0, 1, 0, 0])) (loopD zad.xe zac (loopC z5f)) :=
 z0v (S := zad.xe) (X := zac) z17a (h := (.two .no (.two (.join (fun _ => zcl) .no .no) .no))) (z0p [.xs (fun _ => zcl)] (by kernel_rfl) ⟨(z2k zq3), trivial⟩) (z0c zad) zy5 z5f (fun s => by kernel_rfl)
def znj : Shp := ⟨41, 0, [(5, .d .bool), (6, .d .bool), (32, .d .bool)], []⟩
def zi1 : XS := .one .normal znj.xe
theorem zzu : zi1.OK := XS.one_ok (z0c znj)
def z15r : Shp := ⟨1, 0, [(0, .d (.int .i64))], []⟩
def z1cp : XS := .one .ret z15r.xe
theorem z1k8 : z1cp.OK := XS.one_ok (z0c z15r)
def z17z (a : List Int) (b : List Int) : Option ((Int)) :=
 (loopC z5f (false, false, 0, a, b)).bind fun o =>
 (show Option ((Bool × Bool × Bool)) from
 bif o.1 then
 some (o.1, o.2, o.2)
 else
 some (o.1, o.2, false)).bind fun j =>
 bif j.2.2 then
 some 2
 else
 bif j.1 then
 some (-1)
 else
 bif j.2.1 then
 some 1
 else
 some 0
def z1co : Sig := ⟨52, [.d c1, .d c1], [], 0, z1cp⟩
def z19e (x : (List Int) × (List Int)) : Option ((Int)) := z17z x.1 x.2
theorem z1oy : FnOK Try.prog z1co z19e :=
 fn_ok z17a (h := (.two .no (.two .no (.two (.two .no (.over (loopD zad.xe zac (loopC z5f)))) (.two (.join (fun _ => zi1) .no .no) .no))))) Try.func52 (z0p [.den (.loop (subC (bodyC Try.f52) [1, 1, 0, 1, 0, 0])) (loopD zad.xe zac (loopC z5f)), .xs (fun _ => zi1)] (by kernel_rfl) ⟨zzq, (z2k zzu), trivial⟩) (by kernel_rfl) z1k8 (fun x => by kernel_rfl)
def z1un : Env := ⟨[(entQ z1co z19e)], [], []⟩
theorem z1qf : EnvsOK Try.prog z1un := ⟨z0o (z0q z1oy) (z0w _), z0s _, z0t _⟩
def z1dc : Shp := ⟨1, 0, [(0, .d .bool)], []⟩
def z1ip : XS := .one .ret z1dc.xe
theorem z1oe : z1ip.OK := XS.one_ok (z0c z1dc)
def zxf (a : List Int) (b : List Int) : Option ((Bool)) :=
 (z17z a b).bind fun r =>
 some (leI r 0)
def z17r : Sig := ⟨27, [.d c1, .d c1], [], 0, z1ip⟩
def z14e (x : (List Int) × (List Int)) : Option ((Bool)) := zxf x.1 x.2
theorem z1ew : FnOK Try.prog z17r z14e :=
 fn_ok z1qf (h := .no) Try.func27 (z0p [] (by kernel_rfl) trivial) (by kernel_rfl) z1oe (fun x => by kernel_rfl)
def z1t2 : Env := ⟨[], [], []⟩
theorem z19w : EnvsOK Try.prog z1t2 := ⟨z0w _, z0s _, z0t _⟩
def zn9 : Shp := ⟨37, 0, [], []⟩
def znz : Shp := ⟨37, 0, [(2, .d .bool)], []⟩
def zbj : XS := .or (.exit 0) zn9.xe (.one .ret znz.xe)
theorem zzp : zbj.OK := XS.or_ok (z0c zn9) (XS.one_ok (z0c znz))
def zbk : Shp := ⟨37, 0, [(8, .d c3), (9, .d (.int .i64)), (10, .d (.int .i64))], []⟩
abbrev zim := (List T1) × Int × Int
abbrev zr1 := (Unit) ⊕ (Bool)
def zih (t8 : List T1) (t9 : Int) (t10 : Int) : Option (zim ⊕ zr1) :=
 bif ltI t10 t9 then
 (idxI t8 t10).bind fun x =>
 z0u (List.length x.2.2.2.2.2.1) (
 bif ltI 30 (List.length x.2.2.2.2.2.1 : Nat) then
 some (.inr (.inr false))
 else
 z0u (List.length x.2.2.2.2.2.2.2.2.2.1) (
 bif ltI 250 (List.length x.2.2.2.2.2.2.2.2.2.1 : Nat) then
 some (.inr (.inr false))
 else
 z0u (List.length x.2.2.2.2.2.2.1) (
 bif ltI 10 (List.length x.2.2.2.2.2.2.1 : Nat) then
 some (.inr (.inr false))
 else
 z0u (List.length x.2.2.2.2.2.2.2.1) (
 bif ltI 10 (List.length x.2.2.2.2.2.2.2.1 : Nat) then
 some (.inr (.inr false))
 else
 some (.inl (t8, t9, W64 (t10 + 1)))))))
 else
 some (.inr (.inl ()))
def z5s (s : zim) : Option (zim ⊕ zr1) := zih s.1 s.2.1 s.2.2
theorem z14b : SoundD Try.prog (.loop (subC (bodyC Try.f9) [1, 1, 0, 1, 0, 0])) (loopD zbk.xe zbj (loopC z5s)) :=
 z0v (S := zbk.xe) (X := zbj) z19w (h := .no) (z0p [] (by kernel_rfl) trivial) (z0c zbk) zzp z5s (fun s => by kernel_rfl)
def z1ay : Shp := ⟨1, 0, [(0, .d .bool)], []⟩
def z1et : XS := .one .ret z1ay.xe
theorem z1ls : z1et.OK := XS.one_ok (z0c z1ay)
def zu2 (l : List T1) : Option ((Bool)) :=
 z0u (List.length l) (
 bif ltI 25 (List.length l : Nat) then
 some false
 else
 z0u (List.length l) (
 (loopC z5s (l, (List.length l : Nat), 0)).bind fun o =>
 Sum.elim (fun y =>
 some true) (fun y2 =>
 some y2) o))
def z1f6 : Sig := ⟨9, [.d c3], [], 0, z1et⟩
def z1ci (x : (List T1)) : Option ((Bool)) := zu2 x
theorem z1r9 : FnOK Try.prog z1f6 z1ci :=
 fn_ok z19w (h := (.two .no (.two .no (.two (.two .no (.over (loopD zbk.xe zbj (loopC z5s)))) .no)))) Try.func9 (z0p [.den (.loop (subC (bodyC Try.f9) [1, 1, 0, 1, 0, 0])) (loopD zbk.xe zbj (loopC z5s))] (by kernel_rfl) ⟨z14b, trivial⟩) (by kernel_rfl) z1ls (fun x => by kernel_rfl)
def z1u6 : Env := ⟨[(entQ zqs zna)], [], []⟩
theorem z1qn : EnvsOK Try.prog z1u6 := ⟨z0o (z0q ztl) (z0w _), z0s _, z0t _⟩
def z1d0 : Shp := ⟨1, 0, [(0, .d .bool)], []⟩
def z1j4 : XS := .one .ret z1d0.xe
theorem z1o1 : z1j4.OK := XS.one_ok (z0c z1d0)
def zft (v : List Int) (id : T0) : Option ((Bool)) :=
 bif ltI 0 id.2 then
 (zoc v id.1).bind fun r =>
 some (leI id.2 r)
 else
 some false
def zly : Sig := ⟨58, [.d c1, .d c0], [], 0, z1j4⟩
def zjm (x : (List Int) × T0) : Option ((Bool)) := zft x.1 x.2
theorem znx : FnOK Try.prog zly zjm :=
 fn_ok z1qn (h := .no) Try.func58 (z0p [] (by kernel_rfl) trivial) (by kernel_rfl) z1o1 (fun x => by kernel_rfl)
def z1s3 : Env := ⟨[], [], []⟩
theorem z1ot : EnvsOK Try.prog z1s3 := ⟨z0w _, z0s _, z0t _⟩
def z18h : Shp := ⟨1, 0, [(0, .d .bool)], []⟩
def z1es : XS := .one .ret z18h.xe
theorem z1mz : z1es.OK := XS.one_ok (z0c z18h)
def zku (x : T0) : Option ((Bool)) :=
 bif eqI x.1 0 then
 some (eqI x.2 0)
 else
 some false
def z12k : Sig := ⟨80, [.d c0], [], 0, z1es⟩
def zxp (x : T0) : Option ((Bool)) := zku x
theorem z1ds : FnOK Try.prog z12k zxp :=
 fn_ok z1ot (h := .no) Try.func80 (z0p [] (by kernel_rfl) trivial) (by kernel_rfl) z1mz (fun x => by kernel_rfl)
def z1rj : Env := ⟨[(entQ zly zjm), (entQ zc8 zas)], [], []⟩
theorem z1a9 : EnvsOK Try.prog z1rj := ⟨z0o (z0q znx) (z0o (z0q zct) (z0w _)), z0s _, z0t _⟩
def zq6 : Shp := ⟨36, 0, [], []⟩
def zq8 : Shp := ⟨36, 0, [(4, .d .bool)], []⟩
def zcq : XS := .or (.exit 0) zq6.xe (.one .ret zq8.xe)
theorem z14t : zcq.OK := XS.or_ok (z0c zq6) (XS.one_ok (z0c zq8))
def zcu : Shp := ⟨36, 0, [(0, .d c4), (3, .pt 0 (.one (.arr 8 .leaf)) []), (5, .d (.int .i64))], [.var 25 (.d c1)]⟩
abbrev zki := (List T0) × Int × (List Int)
abbrev ztx := (Unit) ⊕ (Bool)
def zkv (l : List T0) (i : Int) (t3 : List Int) : Option (zki ⊕ ztx) :=
 z0u (List.length l) (
 bif ltI i (List.length l : Nat) then
 (idxI l i).bind fun x =>
 (zft t3 x).bind fun r =>
 bif !r then
 some (.inr (.inr false))
 else
 bif ltI 0 i then
 (idxI l (W64 (i - 1))).bind fun x2 =>
 (idxI l i).bind fun x3 =>
 (zbp x2 x3).bind fun r2 =>
 bif !r2 then
 some (.inr (.inr false))
 else
 some (.inl (l, W64 (i + 1), t3))
 else
 some (.inl (l, W64 (i + 1), t3))
 else
 some (.inr (.inl ())))
def z7i (s : zki) : Option (zki ⊕ ztx) := zkv s.1 s.2.1 s.2.2
theorem z17n : SoundD Try.prog (.loop (subC (bodyC Try.f81) [1, 0, 1, 0, 0])) (loopD zcu.xe zcq (loopC z7i)) :=
 z0v (S := zcu.xe) (X := zcq) z1a9 (h := .no) (z0p [] (by kernel_rfl) trivial) (z0c zcu) z14t z7i (fun s => by kernel_rfl)
def z18v : Shp := ⟨1, 0, [(0, .d .bool)], []⟩
def z1fz : XS := .one .ret z18v.xe
theorem z1nf : z1fz.OK := XS.one_ok (z0c z18v)
def zoz (l : List T0) (t1 : List Int) : Option ((Bool)) :=
 (loopC z7i (l, 0, t1)).bind fun o =>
 Sum.elim (fun y =>
 some true) (fun y2 =>
 some y2) o
def z1el : Sig := ⟨81, [.d c4, .d c1], [], 0, z1fz⟩
def z1dh (x : (List T0) × (List Int)) : Option ((Bool)) := zoz x.1 x.2
theorem z1qm : FnOK Try.prog z1el z1dh :=
 fn_ok z1a9 (h := (.two .no (.two (.two .no (.over (loopD zcu.xe zcq (loopC z7i)))) .no))) Try.func81 (z0p [.den (.loop (subC (bodyC Try.f81) [1, 0, 1, 0, 0])) (loopD zcu.xe zcq (loopC z7i))] (by kernel_rfl) ⟨z17n, trivial⟩) (by kernel_rfl) z1nf (fun x => by kernel_rfl)
def z1to : Env := ⟨[], [], []⟩
theorem z1ab : EnvsOK Try.prog z1to := ⟨z0w _, z0s _, z0t _⟩
def zfq : Shp := ⟨72, 0, [(0, .d .str), (3, .d (.int .i64)), (4, .d (.int .u8)), (5, .d .bool), (6, .d .bool), (7, .d .bool)], []⟩
def zce : XS := .one .normal zfq.xe
theorem zpm : zce.OK := XS.one_ok (z0c zfq)
def zn0 : Shp := ⟨72, 0, [], []⟩
def zmt : Shp := ⟨72, 0, [(2, .d .bool)], []⟩
def zay : XS := .or (.exit 0) zn0.xe (.one .ret zmt.xe)
theorem z10d : zay.OK := XS.or_ok (z0c zn0) (XS.one_ok (z0c zmt))
def zb0 : Shp := ⟨72, 0, [(0, .d .str), (3, .d (.int .i64))], []⟩
abbrev zii := (List Int) × Int
abbrev zqr := (Unit) ⊕ (Bool)
def ziy (t0 : List Int) (i : Int) : Option (zii ⊕ zqr) :=
 z0u (List.length t0) (
 bif ltI i (List.length t0 : Nat) then
 (idxI t0 i).bind fun x =>
 (show Option (((List Int) × Int × Int × Bool × Bool × Bool)) from
 bif leI 97 x then
 bif leI 65 x then
 bif leI 48 x then
 some (t0, i, x, leI x 122, leI x 90, leI x 57)
 else
 some (t0, i, x, leI x 122, leI x 90, false)
 else
 bif leI 48 x then
 some (t0, i, x, leI x 122, false, leI x 57)
 else
 some (t0, i, x, leI x 122, false, false)
 else
 bif leI 65 x then
 bif leI 48 x then
 some (t0, i, x, false, leI x 90, leI x 57)
 else
 some (t0, i, x, false, leI x 90, false)
 else
 bif leI 48 x then
 some (t0, i, x, false, false, leI x 57)
 else
 some (t0, i, x, false, false, false)).bind fun j =>
 bif !j.2.2.2.1 then
 bif !j.2.2.2.2.1 then
 bif !j.2.2.2.2.2 then
 bif neI j.2.2.1 46 then
 bif neI j.2.2.1 95 then
 bif neI j.2.2.1 45 then
 some (.inr (.inr false))
 else
 some (.inl (j.1, W64 (j.2.1 + 1)))
 else
 some (.inl (j.1, W64 (j.2.1 + 1)))
 else
 some (.inl (j.1, W64 (j.2.1 + 1)))
 else
 some (.inl (j.1, W64 (j.2.1 + 1)))
 else
 some (.inl (j.1, W64 (j.2.1 + 1)))
 else
 some (.inl (j.1, W64 (j.2.1 + 1)))
 else
 some (.inr (.inl ())))
def z5u (s : zii) : Option (zii ⊕ zqr) := ziy s.1 s.2
theorem z11l : SoundD Try.prog (.loop (subC (bodyC Try.f82) [1, 1, 0, 1, 0, 0])) (loopD zb0.xe zay (loopC z5u)) :=
 z0v (S := zb0.xe) (X := zay) z1ab (h := (.two .no (.two (.two .no (.join (fun _ => zce) .no .no)) .no))) (z0p [.xs (fun _ => zce)] (by kernel_rfl) ⟨(z2k zpm), trivial⟩) (z0c zb0) z10d z5u (fun s => by kernel_rfl)
def z1az : Shp := ⟨1, 0, [(0, .d .bool)], []⟩
def z1g8 : XS := .one .ret z1az.xe
theorem z1m3 : z1g8.OK := XS.one_ok (z0c z1az)
def zt0 (t0 : List Int) : Option ((Bool)) :=
 bif eqS t0 ([] : List Int) then
 some false
 else
 z0u (List.length t0) (
 bif ltI 12 (List.length t0 : Nat) then
 some false
 else
 bif eqS t0 ([46] : List Int) then
 some false
 else
 bif eqS t0 ([46, 46] : List Int) then
 some false
 else
 (loopC z5u (t0, 0)).bind fun o =>
 Sum.elim (fun y =>
 some true) (fun y2 =>
 some y2) o)
def z1ex : Sig := ⟨82, [.d .str], [], 0, z1g8⟩
def z1d7 (x : (List Int)) : Option ((Bool)) := zt0 x
theorem z1qh : FnOK Try.prog z1ex z1d7 :=
 fn_ok z1ab (h := (.two .no (.two .no (.two (.two .no (.over (loopD zb0.xe zay (loopC z5u)))) .no)))) Try.func82 (z0p [.den (.loop (subC (bodyC Try.f82) [1, 1, 0, 1, 0, 0])) (loopD zb0.xe zay (loopC z5u))] (by kernel_rfl) ⟨z11l, trivial⟩) (by kernel_rfl) z1m3 (fun x => by kernel_rfl)
def z1ti : Env := ⟨[(entQ z12k zxp)], [], []⟩
theorem z1om : EnvsOK Try.prog z1ti := ⟨z0o (z0q z1ds) (z0w _), z0s _, z0t _⟩
def z18r : Shp := ⟨1, 0, [(0, .d .bool)], []⟩
def z1fj : XS := .one .ret z18r.xe
theorem z1lr : z1fj.OK := XS.one_ok (z0c z18r)
def zbx (t0 : T1) (obj : Bool) (dir : Bool) (gone : Bool) (base : Bool) (off : Bool) (data : Bool) (ward : Bool) : Option ((Bool)) :=
 bif obj then
 bif dir then
 bif gone then
 bif base then
 bif off then
 bif data then
 bif ward then
 some true
 else
 some (eqI t0.2.2.2.2.2.2.2.2.2.2 0)
 else
 bif eqS t0.2.2.2.2.2.2.2.2.2.1 ([] : List Int) then
 bif ward then
 some true
 else
 some (eqI t0.2.2.2.2.2.2.2.2.2.2 0)
 else
 some false
 else
 bif eqI t0.2.2.2.2.2.2.2.2.1 0 then
 bif data then
 bif ward then
 some true
 else
 some (eqI t0.2.2.2.2.2.2.2.2.2.2 0)
 else
 bif eqS t0.2.2.2.2.2.2.2.2.2.1 ([] : List Int) then
 bif ward then
 some true
 else
 some (eqI t0.2.2.2.2.2.2.2.2.2.2 0)
 else
 some false
 else
 some false
 else
 z0u (List.length t0.2.2.2.2.2.2.2.1) (
 bif eqI (List.length t0.2.2.2.2.2.2.2.1 : Nat) 0 then
 bif off then
 bif data then
 bif ward then
 some true
 else
 some (eqI t0.2.2.2.2.2.2.2.2.2.2 0)
 else
 bif eqS t0.2.2.2.2.2.2.2.2.2.1 ([] : List Int) then
 bif ward then
 some true
 else
 some (eqI t0.2.2.2.2.2.2.2.2.2.2 0)
 else
 some false
 else
 bif eqI t0.2.2.2.2.2.2.2.2.1 0 then
 bif data then
 bif ward then
 some true
 else
 some (eqI t0.2.2.2.2.2.2.2.2.2.2 0)
 else
 bif eqS t0.2.2.2.2.2.2.2.2.2.1 ([] : List Int) then
 bif ward then
 some true
 else
 some (eqI t0.2.2.2.2.2.2.2.2.2.2 0)
 else
 some false
 else
 some false
 else
 some false)
 else
 z0u (List.length t0.2.2.2.2.2.2.1) (
 bif eqI (List.length t0.2.2.2.2.2.2.1 : Nat) 0 then
 bif base then
 bif off then
 bif data then
 bif ward then
 some true
 else
 some (eqI t0.2.2.2.2.2.2.2.2.2.2 0)
 else
 bif eqS t0.2.2.2.2.2.2.2.2.2.1 ([] : List Int) then
 bif ward then
 some true
 else
 some (eqI t0.2.2.2.2.2.2.2.2.2.2 0)
 else
 some false
 else
 bif eqI t0.2.2.2.2.2.2.2.2.1 0 then
 bif data then
 bif ward then
 some true
 else
 some (eqI t0.2.2.2.2.2.2.2.2.2.2 0)
 else
 bif eqS t0.2.2.2.2.2.2.2.2.2.1 ([] : List Int) then
 bif ward then
 some true
 else
 some (eqI t0.2.2.2.2.2.2.2.2.2.2 0)
 else
 some false
 else
 some false
 else
 z0u (List.length t0.2.2.2.2.2.2.2.1) (
 bif eqI (List.length t0.2.2.2.2.2.2.2.1 : Nat) 0 then
 bif off then
 bif data then
 bif ward then
 some true
 else
 some (eqI t0.2.2.2.2.2.2.2.2.2.2 0)
 else
 bif eqS t0.2.2.2.2.2.2.2.2.2.1 ([] : List Int) then
 bif ward then
 some true
 else
 some (eqI t0.2.2.2.2.2.2.2.2.2.2 0)
 else
 some false
 else
 bif eqI t0.2.2.2.2.2.2.2.2.1 0 then
 bif data then
 bif ward then
 some true
 else
 some (eqI t0.2.2.2.2.2.2.2.2.2.2 0)
 else
 bif eqS t0.2.2.2.2.2.2.2.2.2.1 ([] : List Int) then
 bif ward then
 some true
 else
 some (eqI t0.2.2.2.2.2.2.2.2.2.2 0)
 else
 some false
 else
 some false
 else
 some false)
 else
 some false)
 else
 (zku t0.2.2.2.2.1).bind fun r =>
 bif r then
 bif eqS t0.2.2.2.2.2.1 ([] : List Int) then
 bif gone then
 bif base then
 bif off then
 bif data then
 bif ward then
 some true
 else
 some (eqI t0.2.2.2.2.2.2.2.2.2.2 0)
 else
 bif eqS t0.2.2.2.2.2.2.2.2.2.1 ([] : List Int) then
 bif ward then
 some true
 else
 some (eqI t0.2.2.2.2.2.2.2.2.2.2 0)
 else
 some false
 else
 bif eqI t0.2.2.2.2.2.2.2.2.1 0 then
 bif data then
 bif ward then
 some true
 else
 some (eqI t0.2.2.2.2.2.2.2.2.2.2 0)
 else
 bif eqS t0.2.2.2.2.2.2.2.2.2.1 ([] : List Int) then
 bif ward then
 some true
 else
 some (eqI t0.2.2.2.2.2.2.2.2.2.2 0)
 else
 some false
 else
 some false
 else
 z0u (List.length t0.2.2.2.2.2.2.2.1) (
 bif eqI (List.length t0.2.2.2.2.2.2.2.1 : Nat) 0 then
 bif off then
 bif data then
 bif ward then
 some true
 else
 some (eqI t0.2.2.2.2.2.2.2.2.2.2 0)
 else
 bif eqS t0.2.2.2.2.2.2.2.2.2.1 ([] : List Int) then
 bif ward then
 some true
 else
 some (eqI t0.2.2.2.2.2.2.2.2.2.2 0)
 else
 some false
 else
 bif eqI t0.2.2.2.2.2.2.2.2.1 0 then
 bif data then
 bif ward then
 some true
 else
 some (eqI t0.2.2.2.2.2.2.2.2.2.2 0)
 else
 bif eqS t0.2.2.2.2.2.2.2.2.2.1 ([] : List Int) then
 bif ward then
 some true
 else
 some (eqI t0.2.2.2.2.2.2.2.2.2.2 0)
 else
 some false
 else
 some false
 else
 some false)
 else
 z0u (List.length t0.2.2.2.2.2.2.1) (
 bif eqI (List.length t0.2.2.2.2.2.2.1 : Nat) 0 then
 bif base then
 bif off then
 bif data then
 bif ward then
 some true
 else
 some (eqI t0.2.2.2.2.2.2.2.2.2.2 0)
 else
 bif eqS t0.2.2.2.2.2.2.2.2.2.1 ([] : List Int) then
 bif ward then
 some true
 else
 some (eqI t0.2.2.2.2.2.2.2.2.2.2 0)
 else
 some false
 else
 bif eqI t0.2.2.2.2.2.2.2.2.1 0 then
 bif data then
 bif ward then
 some true
 else
 some (eqI t0.2.2.2.2.2.2.2.2.2.2 0)
 else
 bif eqS t0.2.2.2.2.2.2.2.2.2.1 ([] : List Int) then
 bif ward then
 some true
 else
 some (eqI t0.2.2.2.2.2.2.2.2.2.2 0)
 else
 some false
 else
 some false
 else
 z0u (List.length t0.2.2.2.2.2.2.2.1) (
 bif eqI (List.length t0.2.2.2.2.2.2.2.1 : Nat) 0 then
 bif off then
 bif data then
 bif ward then
 some true
 else
 some (eqI t0.2.2.2.2.2.2.2.2.2.2 0)
 else
 bif eqS t0.2.2.2.2.2.2.2.2.2.1 ([] : List Int) then
 bif ward then
 some true
 else
 some (eqI t0.2.2.2.2.2.2.2.2.2.2 0)
 else
 some false
 else
 bif eqI t0.2.2.2.2.2.2.2.2.1 0 then
 bif data then
 bif ward then
 some true
 else
 some (eqI t0.2.2.2.2.2.2.2.2.2.2 0)
 else
 bif eqS t0.2.2.2.2.2.2.2.2.2.1 ([] : List Int) then
 bif ward then
 some true
 else
 some (eqI t0.2.2.2.2.2.2.2.2.2.2 0)
 else
 some false
 else
 some false
 else
 some false)
 else
 some false)
 else
 some false
 else
 some false
 else
 (zku t0.2.2.2.1).bind fun r2 =>
 bif r2 then
 bif dir then
 bif gone then
 bif base then
 bif off then
 bif data then
 bif ward then
 some true
 else
 some (eqI t0.2.2.2.2.2.2.2.2.2.2 0)
 else
 bif eqS t0.2.2.2.2.2.2.2.2.2.1 ([] : List Int) then
 bif ward then
 some true
 else
 some (eqI t0.2.2.2.2.2.2.2.2.2.2 0)
 else
 some false
 else
 bif eqI t0.2.2.2.2.2.2.2.2.1 0 then
 bif data then
 bif ward then
 some true
 else
 some (eqI t0.2.2.2.2.2.2.2.2.2.2 0)
 else
 bif eqS t0.2.2.2.2.2.2.2.2.2.1 ([] : List Int) then
 bif ward then
 some true
 else
 some (eqI t0.2.2.2.2.2.2.2.2.2.2 0)
 else
 some false
 else
 some false
 else
 z0u (List.length t0.2.2.2.2.2.2.2.1) (
 bif eqI (List.length t0.2.2.2.2.2.2.2.1 : Nat) 0 then
 bif off then
 bif data then
 bif ward then
 some true
 else
 some (eqI t0.2.2.2.2.2.2.2.2.2.2 0)
 else
 bif eqS t0.2.2.2.2.2.2.2.2.2.1 ([] : List Int) then
 bif ward then
 some true
 else
 some (eqI t0.2.2.2.2.2.2.2.2.2.2 0)
 else
 some false
 else
 bif eqI t0.2.2.2.2.2.2.2.2.1 0 then
 bif data then
 bif ward then
 some true
 else
 some (eqI t0.2.2.2.2.2.2.2.2.2.2 0)
 else
 bif eqS t0.2.2.2.2.2.2.2.2.2.1 ([] : List Int) then
 bif ward then
 some true
 else
 some (eqI t0.2.2.2.2.2.2.2.2.2.2 0)
 else
 some false
 else
 some false
 else
 some false)
 else
 z0u (List.length t0.2.2.2.2.2.2.1) (
 bif eqI (List.length t0.2.2.2.2.2.2.1 : Nat) 0 then
 bif base then
 bif off then
 bif data then
 bif ward then
 some true
 else
 some (eqI t0.2.2.2.2.2.2.2.2.2.2 0)
 else
 bif eqS t0.2.2.2.2.2.2.2.2.2.1 ([] : List Int) then
 bif ward then
 some true
 else
 some (eqI t0.2.2.2.2.2.2.2.2.2.2 0)
 else
 some false
 else
 bif eqI t0.2.2.2.2.2.2.2.2.1 0 then
 bif data then
 bif ward then
 some true
 else
 some (eqI t0.2.2.2.2.2.2.2.2.2.2 0)
 else
 bif eqS t0.2.2.2.2.2.2.2.2.2.1 ([] : List Int) then
 bif ward then
 some true
 else
 some (eqI t0.2.2.2.2.2.2.2.2.2.2 0)
 else
 some false
 else
 some false
 else
 z0u (List.length t0.2.2.2.2.2.2.2.1) (
 bif eqI (List.length t0.2.2.2.2.2.2.2.1 : Nat) 0 then
 bif off then
 bif data then
 bif ward then
 some true
 else
 some (eqI t0.2.2.2.2.2.2.2.2.2.2 0)
 else
 bif eqS t0.2.2.2.2.2.2.2.2.2.1 ([] : List Int) then
 bif ward then
 some true
 else
 some (eqI t0.2.2.2.2.2.2.2.2.2.2 0)
 else
 some false
 else
 bif eqI t0.2.2.2.2.2.2.2.2.1 0 then
 bif data then
 bif ward then
 some true
 else
 some (eqI t0.2.2.2.2.2.2.2.2.2.2 0)
 else
 bif eqS t0.2.2.2.2.2.2.2.2.2.1 ([] : List Int) then
 bif ward then
 some true
 else
 some (eqI t0.2.2.2.2.2.2.2.2.2.2 0)
 else
 some false
 else
 some false
 else
 some false)
 else
 some false)
 else
 (zku t0.2.2.2.2.1).bind fun r3 =>
 bif r3 then
 bif eqS t0.2.2.2.2.2.1 ([] : List Int) then
 bif gone then
 bif base then
 bif off then
 bif data then
 bif ward then
 some true
 else
 some (eqI t0.2.2.2.2.2.2.2.2.2.2 0)
 else
 bif eqS t0.2.2.2.2.2.2.2.2.2.1 ([] : List Int) then
 bif ward then
 some true
 else
 some (eqI t0.2.2.2.2.2.2.2.2.2.2 0)
 else
 some false
 else
 bif eqI t0.2.2.2.2.2.2.2.2.1 0 then
 bif data then
 bif ward then
 some true
 else
 some (eqI t0.2.2.2.2.2.2.2.2.2.2 0)
 else
 bif eqS t0.2.2.2.2.2.2.2.2.2.1 ([] : List Int) then
 bif ward then
 some true
 else
 some (eqI t0.2.2.2.2.2.2.2.2.2.2 0)
 else
 some false
 else
 some false
 else
 z0u (List.length t0.2.2.2.2.2.2.2.1) (
 bif eqI (List.length t0.2.2.2.2.2.2.2.1 : Nat) 0 then
 bif off then
 bif data then
 bif ward then
 some true
 else
 some (eqI t0.2.2.2.2.2.2.2.2.2.2 0)
 else
 bif eqS t0.2.2.2.2.2.2.2.2.2.1 ([] : List Int) then
 bif ward then
 some true
 else
 some (eqI t0.2.2.2.2.2.2.2.2.2.2 0)
 else
 some false
 else
 bif eqI t0.2.2.2.2.2.2.2.2.1 0 then
 bif data then
 bif ward then
 some true
 else
 some (eqI t0.2.2.2.2.2.2.2.2.2.2 0)
 else
 bif eqS t0.2.2.2.2.2.2.2.2.2.1 ([] : List Int) then
 bif ward then
 some true
 else
 some (eqI t0.2.2.2.2.2.2.2.2.2.2 0)
 else
 some false
 else
 some false
 else
 some false)
 else
 z0u (List.length t0.2.2.2.2.2.2.1) (
 bif eqI (List.length t0.2.2.2.2.2.2.1 : Nat) 0 then
 bif base then
 bif off then
 bif data then
 bif ward then
 some true
 else
 some (eqI t0.2.2.2.2.2.2.2.2.2.2 0)
 else
 bif eqS t0.2.2.2.2.2.2.2.2.2.1 ([] : List Int) then
 bif ward then
 some true
 else
 some (eqI t0.2.2.2.2.2.2.2.2.2.2 0)
 else
 some false
 else
 bif eqI t0.2.2.2.2.2.2.2.2.1 0 then
 bif data then
 bif ward then
 some true
 else
 some (eqI t0.2.2.2.2.2.2.2.2.2.2 0)
 else
 bif eqS t0.2.2.2.2.2.2.2.2.2.1 ([] : List Int) then
 bif ward then
 some true
 else
 some (eqI t0.2.2.2.2.2.2.2.2.2.2 0)
 else
 some false
 else
 some false
 else
 z0u (List.length t0.2.2.2.2.2.2.2.1) (
 bif eqI (List.length t0.2.2.2.2.2.2.2.1 : Nat) 0 then
 bif off then
 bif data then
 bif ward then
 some true
 else
 some (eqI t0.2.2.2.2.2.2.2.2.2.2 0)
 else
 bif eqS t0.2.2.2.2.2.2.2.2.2.1 ([] : List Int) then
 bif ward then
 some true
 else
 some (eqI t0.2.2.2.2.2.2.2.2.2.2 0)
 else
 some false
 else
 bif eqI t0.2.2.2.2.2.2.2.2.1 0 then
 bif data then
 bif ward then
 some true
 else
 some (eqI t0.2.2.2.2.2.2.2.2.2.2 0)
 else
 bif eqS t0.2.2.2.2.2.2.2.2.2.1 ([] : List Int) then
 bif ward then
 some true
 else
 some (eqI t0.2.2.2.2.2.2.2.2.2.2 0)
 else
 some false
 else
 some false
 else
 some false)
 else
 some false)
 else
 some false
 else
 some false
 else
 some false
def z1h9 : Sig := ⟨83, [.d c9, .d .bool, .d .bool, .d .bool, .d .bool, .d .bool, .d .bool, .d .bool], [], 0, z1fj⟩
def z1cm (x : T1 × Bool × Bool × Bool × Bool × Bool × Bool × Bool) : Option ((Bool)) := zbx x.1 x.2.1 x.2.2.1 x.2.2.2.1 x.2.2.2.2.1 x.2.2.2.2.2.1 x.2.2.2.2.2.2.1 x.2.2.2.2.2.2.2
theorem z1qt : FnOK Try.prog z1h9 z1cm :=
 fn_ok z1om (h := .no) Try.func83 (z0p [] (by kernel_rfl) trivial) (by kernel_rfl) z1lr (fun x => by kernel_rfl)
def z1r8 : Env := ⟨[(entQ zqs zna), (entQ zly zjm), (entQ z12k zxp), (entQ z1el z1dh), (entQ z1ex z1d7), (entQ z1h9 z1cm)], [], []⟩
theorem z16u : EnvsOK Try.prog z1r8 := ⟨z0o (z0q ztl) (z0o (z0q znx) (z0o (z0q z1ds) (z0o (z0q z1qm) (z0o (z0q z1qh) (z0o (z0q z1qt) (z0w _)))))), z0s _, z0t _⟩
def zmf : Shp := ⟨233, 0, [(1, .pt 0 r8 [])], [.var 67 (.d c9)]⟩
def zmb : Shp := ⟨233, 0, [(2, .d .bool)], []⟩
def zak : XS := .or (.exit 0) zmf.xe (.one .ret zmb.xe)
theorem zy7 : zak.OK := XS.or_ok (z0c zmf) (XS.one_ok (z0c zmb))
def zal : Shp := ⟨233, 0, [(1, .pt 0 r8 []), (3, .d (.int .i64))], [.var 67 (.d c9)]⟩
abbrev zgz := Int × T1
abbrev zp3 := (T1) ⊕ (Bool)
def zgv (i : Int) (t1 : T1) : Option (zgz ⊕ zp3) :=
 bif ltI i 8 then
 bif inI i 8 then
 (t1.2.1[i.toNat]?).bind fun x =>
 bif ltI 1048576 x then
 some (.inr (.inr false))
 else
 some (.inl (W64 (i + 1), t1))
 else none
 else
 some (.inr (.inl t1))
def z3q (s : zgz) : Option (zgz ⊕ zp3) := zgv s.1 s.2
theorem z10a : SoundD Try.prog (.loop (subC (bodyC Try.f57) [1, 1, 0, 1, 0, 0])) (loopD zal.xe zak (loopC z3q)) :=
 z0v (S := zal.xe) (X := zak) z16u (h := .no) (z0p [] (by kernel_rfl) trivial) (z0c zal) zy7 z3q (fun s => by kernel_rfl)
def ztv : Shp := ⟨233, 0, [(1, .pt 0 r8 []), (4, .d .bool), (5, .d .bool)], [.var 67 (.d c9)]⟩
def zob : XS := .one .normal ztv.xe
theorem z1aa : zob.OK := XS.one_ok (z0c ztv)
def zqx : Shp := ⟨233, 0, [(1, .pt 0 r8 []), (4, .d .bool), (5, .d .bool), (6, .d .bool), (7, .d .bool)], [.var 67 (.d c9)]⟩
def zkx : XS := .one .normal zqx.xe
theorem z14s : zkx.OK := XS.one_ok (z0c zqx)
def zmw : Shp := ⟨233, 0, [(1, .pt 0 r8 []), (4, .d .bool), (5, .d .bool), (6, .d .bool), (7, .d .bool), (8, .d .bool)], [.var 67 (.d c9)]⟩
def zix : XS := .one .normal zmw.xe
theorem zzg : zix.OK := XS.one_ok (z0c zmw)
def zge : Shp := ⟨233, 0, [(1, .pt 0 r8 []), (4, .d .bool), (5, .d .bool), (6, .d .bool), (7, .d .bool), (8, .d .bool), (93, .d (.int .i64)), (94, .d .bool)], [.var 67 (.d c9)]⟩
def zcz : XS := .one .normal zge.xe
theorem zqf : zcz.OK := XS.one_ok (z0c zge)
def z15z : Shp := ⟨1, 0, [(0, .d .bool)], []⟩
def z1cj : XS := .one .ret z15z.xe
theorem z1kq : z1cj.OK := XS.one_ok (z0c z15z)
def zwb (t0 : T1) : Option ((Bool)) :=
 bif ltI t0.1.1 1 then
 some false
 else
 bif ltI 8 t0.1.1 then
 some false
 else
 bif ltI t0.1.2 1 then
 some false
 else
 bif ltI 1048576 t0.1.2 then
 some false
 else
 (zoc t0.2.1 t0.1.1).bind fun r =>
 bif neI (WU32 (r + 1)) t0.1.2 then
 some false
 else
 (loopC z3q (0, t0)).bind fun o =>
 Sum.elim (fun y =>
 (show Option ((Bool × Bool × T1)) from
 (zft y.2.1 y.2.2.2.1).bind fun r2 =>
 (zku y.2.2.2.2.1).bind fun r3 =>
 bif r3 then
 some (r2, true, y)
 else
 (zft y.2.1 y.2.2.2.2.1).bind fun r4 =>
 some (r2, r4, y)).bind fun j =>
 (show Option ((Bool × Bool × Bool × Bool × T1)) from
 z0u (List.length j.2.2.2.2.2.2.2.2.1) (
 bif leI (List.length j.2.2.2.2.2.2.2.2.1 : Nat) 8 then
 (zoz j.2.2.2.2.2.2.2.2.1 j.2.2.2.1).bind fun r5 =>
 (zoz j.2.2.2.2.2.2.2.2.2.1 j.2.2.2.1).bind fun r6 =>
 some (j.1, j.2.1, r5, r6, j.2.2)
 else
 (zoz j.2.2.2.2.2.2.2.2.2.1 j.2.2.2.1).bind fun r7 =>
 some (j.1, j.2.1, false, r7, j.2.2))).bind fun j2 =>
 (show Option ((Bool × Bool × Bool × Bool × Bool × T1)) from
 bif leI 0 j2.2.2.2.2.2.2.2.2.2.2.2.2.1 then
 some (j2.1, j2.2.1, j2.2.2.1, j2.2.2.2.1, leI j2.2.2.2.2.2.2.2.2.2.2.2.2.1 200, j2.2.2.2.2)
 else
 some (j2.1, j2.2.1, j2.2.2.1, j2.2.2.2.1, false, j2.2.2.2.2)).bind fun j3 =>
 (show Option ((Bool × Bool × Bool × Bool × Bool × Int × Bool × T1)) from
 bif eqI j3.2.2.2.2.2.2.2.1 1 then
 some (j3.1, j3.2.1, j3.2.2.1, j3.2.2.2.1, j3.2.2.2.2.1, j3.2.2.2.2.2.2.2.1, eqI j3.2.2.2.2.2.2.2.1 1, j3.2.2.2.2.2)
 else
 some (j3.1, j3.2.1, j3.2.2.1, j3.2.2.2.1, j3.2.2.2.2.1, j3.2.2.2.2.2.2.2.1, eqI j3.2.2.2.2.2.2.2.1 2, j3.2.2.2.2.2)).bind fun j4 =>
 bif j4.2.2.2.2.2.2.1 then
 bif j4.2.1 then
 (zt0 j4.2.2.2.2.2.2.2.2.2.2.2.2.1).bind fun r8 =>
 bif r8 then
 (zbx j4.2.2.2.2.2.2.2 false true false false false false false).bind fun r9 =>
 some r9
 else
 some false
 else
 some false
 else
 bif eqI j4.2.2.2.2.2.1 3 then
 bif j4.1 then
 bif j4.2.2.2.1 then
 z0u (List.length j4.2.2.2.2.2.2.2.2.2.2.2.2.2.2.1) (
 bif leI (List.length j4.2.2.2.2.2.2.2.2.2.2.2.2.2.2.1 : Nat) 1 then
 bif j4.2.2.2.2.1 then
 bif !(eqS j4.2.2.2.2.2.2.2.2.2.2.2.2.2.2.2.2.1 ([] : List Int)) then
 z0u (List.length j4.2.2.2.2.2.2.2.2.2.2.2.2.2.2.2.2.1) (
 bif leI (List.length j4.2.2.2.2.2.2.2.2.2.2.2.2.2.2.2.2.1 : Nat) (W64 (200 - j4.2.2.2.2.2.2.2.2.2.2.2.2.2.2.2.1)) then
 (zbx j4.2.2.2.2.2.2.2 true false false true true true false).bind fun r10 =>
 some r10
 else
 some false)
 else
 some false
 else
 some false
 else
 some false)
 else
 some false
 else
 some false
 else
 bif eqI j4.2.2.2.2.2.1 4 then
 bif j4.1 then
 bif j4.2.2.2.1 then
 z0u (List.length j4.2.2.2.2.2.2.2.2.2.2.2.2.2.2.1) (
 bif leI (List.length j4.2.2.2.2.2.2.2.2.2.2.2.2.2.2.1 : Nat) 1 then
 bif j4.2.2.2.2.1 then
 (zbx j4.2.2.2.2.2.2.2 true false false true true false false).bind fun r11 =>
 some r11
 else
 some false
 else
 some false)
 else
 some false
 else
 some false
 else
 bif eqI j4.2.2.2.2.2.1 5 then
 bif j4.1 then
 bif j4.2.2.2.1 then
 z0u (List.length j4.2.2.2.2.2.2.2.2.2.2.2.2.2.2.1) (
 bif leI 2 (List.length j4.2.2.2.2.2.2.2.2.2.2.2.2.2.2.1 : Nat) then
 z0u (List.length j4.2.2.2.2.2.2.2.2.2.2.2.2.2.2.1) (
 bif leI (List.length j4.2.2.2.2.2.2.2.2.2.2.2.2.2.2.1 : Nat) 8 then
 z0u (List.length j4.2.2.2.2.2.2.2.2.2.2.2.2.2.2.2.2.1) (
 bif leI (List.length j4.2.2.2.2.2.2.2.2.2.2.2.2.2.2.2.2.1 : Nat) 200 then
 (zbx j4.2.2.2.2.2.2.2 true false false true false true false).bind fun r12 =>
 some r12
 else
 some false)
 else
 some false)
 else
 some false)
 else
 some false
 else
 some false
 else
 bif eqI j4.2.2.2.2.2.1 6 then
 bif j4.1 then
 bif j4.2.2.1 then
 (zbx j4.2.2.2.2.2.2.2 true false true false false false false).bind fun r13 =>
 some r13
 else
 some false
 else
 some false
 else
 bif eqI j4.2.2.2.2.2.1 7 then
 bif j4.1 then
 bif j4.2.2.1 then
 bif j4.2.1 then
 (zt0 j4.2.2.2.2.2.2.2.2.2.2.2.2.1).bind fun r14 =>
 bif r14 then
 (zbx j4.2.2.2.2.2.2.2 true true true false false false false).bind fun r15 =>
 some r15
 else
 some false
 else
 some false
 else
 some false
 else
 some false
 else
 bif eqI j4.2.2.2.2.2.1 8 then
 bif leI 1 j4.2.2.2.2.2.2.2.2.2.2.2.2.2.2.2.2.2 then
 bif leI j4.2.2.2.2.2.2.2.2.2.2.2.2.2.2.2.2.2 4 then
 (zbx j4.2.2.2.2.2.2.2 false false false false false false true).bind fun r16 =>
 some r16
 else
 some false
 else
 some false
 else
 bif eqI j4.2.2.2.2.2.1 9 then
 (zbx j4.2.2.2.2.2.2.2 false false false false false false false).bind fun r17 =>
 some r17
 else
 some false) (fun y2 =>
 some y2) o
def z1dk : Sig := ⟨57, [.d c9], [], 0, z1cj⟩
def z1av (x : T1) : Option ((Bool)) := zwb x
theorem z1oo : FnOK Try.prog z1dk z1av :=
 fn_ok z16u (h := (.two .no (.two .no (.two (.two .no (.over (loopD zal.xe zak (loopC z3q)))) (.join (fun _ => zob) .no (.join (fun _ => zkx) .no (.join (fun _ => zix) .no (.two (.two .no (.join (fun _ => zcz) .no .no)) .no)))))))) Try.func57 (z0p [.den (.loop (subC (bodyC Try.f57) [1, 1, 0, 1, 0, 0])) (loopD zal.xe zak (loopC z3q)), .xs (fun _ => zob), .xs (fun _ => zkx), .xs (fun _ => zix), .xs (fun _ => zcz)] (by kernel_rfl) ⟨z10a, (z2k z1aa), (z2k z14s), (z2k zzg), (z2k zqf), trivial⟩) (by kernel_rfl) z1kq (fun x => by kernel_rfl)
def z1u1 : Env := ⟨[], [], []⟩
theorem z1o4 : EnvsOK Try.prog z1u1 := ⟨z0w _, z0s _, z0t _⟩
def z18w : Shp := ⟨1, 0, [(0, .d .bool)], []⟩
def z1g0 : XS := .one .ret z18w.xe
theorem z1lz : z1g0.OK := XS.one_ok (z0c z18w)
def zzj (x : T0) : Option ((Bool)) :=
 bif eqI x.1 0 then
 some (eqI x.2 0)
 else
 some false
def z1er : Sig := ⟨84, [.d c0], [], 0, z1g0⟩
def z1dn (x : T0) : Option ((Bool)) := zzj x
theorem z1qr : FnOK Try.prog z1er z1dn :=
 fn_ok z1o4 (h := .no) Try.func84 (z0p [] (by kernel_rfl) trivial) (by kernel_rfl) z1lz (fun x => by kernel_rfl)
def z1ok : Env := ⟨[], [], []⟩
theorem z11g : EnvsOK Try.prog z1ok := ⟨z0w _, z0s _, z0t _⟩
def zn6 : Shp := ⟨28, 0, [(4, .pt 0 r13 [])], [.var 49 (.d c14)]⟩
def zne : Shp := ⟨28, 0, [(4, .pt 0 r13 []), (5, .d .bool)], [.var 49 (.d c14)]⟩
def zaw : XS := .or (.exit 0) zn6.xe (.one .ret zne.xe)
theorem zzf : zaw.OK := XS.or_ok (z0c zn6) (XS.one_ok (z0c zne))
def zax : Shp := ⟨28, 0, [(2, .pt 0 r15 []), (3, .pt 1 r2 []), (4, .pt 2 r13 []), (6, .d (.int .i64))], [.var 33 (.d c17), .var 43 (.d c0), .var 49 (.d c14)]⟩
abbrev zit := Int × T5 × T0 × T4
abbrev zq9 := (T4) ⊕ (Bool × T4)
def zic (i : Int) (t2 : T5) (id : T0) (t4 : T4) : Option (zit ⊕ zq9) :=
 z0u (List.length t2.2.1) (
 bif ltI i (List.length t2.2.1 : Nat) then
 (idxI t2.2.1 i).bind fun x =>
 bif eqU c0 x.1 id then
 (idxI t2.2.1 i).bind fun x2 =>
 some (.inr (.inr (true, x2)))
 else
 some (.inl (W64 (i + 1), t2, id, t4))
 else
 some (.inr (.inl t4)))
def z5p (s : zit) : Option (zit ⊕ zq9) := zic s.1 s.2.1 s.2.2.1 s.2.2.2
theorem z12h : SoundD Try.prog (.loop (subC (bodyC Try.f19) [1, 0, 1, 0, 0])) (loopD zax.xe zaw (loopC z5p)) :=
 z0v (S := zax.xe) (X := zaw) z11g (h := .no) (z0p [] (by kernel_rfl) trivial) (z0c zax) zzf z5p (fun s => by kernel_rfl)
def z11j : Shp := ⟨1, 0, [(0, .tu [.d c14, .d .bool])], []⟩
def z1ak : XS := .one .ret z11j.xe
theorem z1i4 : z1ak.OK := XS.one_ok (z0c z11j)
def zo5 (t0 : T5) (id : T0) : Option ((T4 × Bool)) :=
 (loopC z5p (0, t0, id, ((0, 0), false, (0, 0), [], List.replicate 8 (0 : Int), []))).bind fun o =>
 Sum.elim (fun y =>
 some (((0, 0), false, (0, 0), [], List.replicate 8 (0 : Int), []), false)) (fun y2 =>
 some (y2.2, y2.1)) o
def zvo : Sig := ⟨19, [.d c17, .d c0], [], 0, z1ak⟩
def zt3 (x : T5 × T0) : Option ((T4 × Bool)) := zo5 x.1 x.2
theorem z16j : FnOK Try.prog zvo zt3 :=
 fn_ok z11g (h := (.two .no (.two (.two .no (.over (loopD zax.xe zaw (loopC z5p)))) .no))) Try.func19 (z0p [.den (.loop (subC (bodyC Try.f19) [1, 0, 1, 0, 0])) (loopD zax.xe zaw (loopC z5p))] (by kernel_rfl) ⟨z12h, trivial⟩) (by kernel_rfl) z1i4 (fun x => by kernel_rfl)
def z1uk : Env := ⟨[(entQ z1er z1dn), (entQ zvo zt3)], [], []⟩
theorem z1qi : EnvsOK Try.prog z1uk := ⟨z0o (z0q z1qr) (z0o (z0q z16j) (z0w _)), z0s _, z0t _⟩
def z1d1 : Shp := ⟨1, 0, [(0, .d (.int .i64))], []⟩
def z1j9 : XS := .one .ret z1d1.xe
theorem z1o2 : z1j9.OK := XS.one_ok (z0c z1d1)
def zwh (t0 : T5) (id : T0) : Option ((Int)) :=
 (zzj id).bind fun r =>
 bif r then
 some 0
 else
 (zo5 t0 id).bind fun r2 =>
 bif !r2.2 then
 some 2
 else
 bif !r2.1.2.1 then
 some 22
 else
 some 0
def z1jg : Sig := ⟨59, [.d c17, .d c0], [], 0, z1j9⟩
def z1go (x : T5 × T0) : Option ((Int)) := zwh x.1 x.2
theorem z1rs : FnOK Try.prog z1jg z1go :=
 fn_ok z1qi (h := .no) Try.func59 (z0p [] (by kernel_rfl) trivial) (by kernel_rfl) z1o2 (fun x => by kernel_rfl)
end Go.Proofs.Ytfbdjicfkcklfaa