import Derived.Test.YtfbdjicfkcklfaaSwAtoAb
import Derived.Test.YtfbdjicfkcklfaaTm26
set_option maxRecDepth 100000
set_option linter.unusedVariables false
noncomputable section
namespace Go.Proofs.Ytfbdjicfkcklfaa
open Go.Tm Go.Ab
def z1ky : Env := ⟨[], [], []⟩
theorem z14g : EnvsOK Try.prog z1ky := ⟨z0x _, z0t _, z0u _⟩
def zmn : Shp := ⟨21, 0, [(2, .pt 0 (.one (.arr 8 .leaf)) []), (4, .pt 1 (.one (.arr 8 .leaf)) [])], [.var 25 (.d c1), .var 25 (.d c1)]⟩
def zbh : XS := .one (.exit 0) zmn.xe
theorem zxm : zbh.OK := XS.one_ok (z0c zmn)
def zb6 : Shp := ⟨21, 0, [(2, .pt 0 (.one (.arr 8 .leaf)) []), (4, .pt 1 (.one (.arr 8 .leaf)) []), (7, .d c1), (8, .d (.int .i64))], [.var 25 (.d c1), .var 25 (.d c1)]⟩
abbrev zhj := (List Int) × Int × (List Int) × (List Int)
abbrev zp6 := ((List Int) × (List Int))
def zih (t7 : List Int) (t8 : Int) (a : List Int) (t4 : List Int) : Option (zhj ⊕ zp6) :=
 bif ltI t8 8 then
 (idxI t7 t8).bind fun x =>
 bif inI t8 8 then
 (a[t8.toNat]?).bind fun x2 =>
 bif inI t8 8 then
 (a[t8.toNat]?).bind fun _x =>
 some (.inl (t7, W64 (t8 + 1), a.set t8.toNat (minI x2 x), t4))
 else none
 else none
 else
 some (.inr (a, t4))
def z6p (s : zhj) : Option (zhj ⊕ zp6) := zih s.1 s.2.1 s.2.2.1 s.2.2.2
theorem zyd : SoundD Try.prog (.loop (subC (bodyC Try.f75) [1, 0, 1, 0, 0])) (loopD zb6.xe zbh (loopC z6p)) :=
 z0w (S := zb6.xe) (X := zbh) z14g (h := .no) (z0o [] (by kernel_rfl) trivial) (z0c zb6) zxm z6p (fun s => by kernel_rfl)
def z12q : Shp := ⟨1, 0, [(0, .d c1)], []⟩
def z1ax : XS := .one .ret z12q.xe
theorem z1f7 : z1ax.OK := XS.one_ok (z0c z12q)
def zyn (a : List Int) (b : List Int) : Option (((List Int))) :=
 (loopC z6p (b, 0, a, List.replicate 8 (0 : Int))).bind fun o =>
 some o.1
def z1al : Sig := ⟨75, [.d c1, .d c1], [], 0, z1ax⟩
def z17n (x : (List Int) × (List Int)) : Option (((List Int))) := zyn x.1 x.2
theorem z1j0 : FnOK Try.prog z1al z17n :=
 fn_ok z14g (h := (.two .no (.two (.two .no (.over (loopD zb6.xe zbh (loopC z6p)))) .no))) Try.func75 (z0o [.den (.loop (subC (bodyC Try.f75) [1, 0, 1, 0, 0])) (loopD zb6.xe zbh (loopC z6p))] (by kernel_rfl) ⟨zyd, trivial⟩) (by kernel_rfl) z1f7 (fun x => by kernel_rfl)
def z1fw : Env := ⟨[(entQ z1al z17n)], [], []⟩
theorem zxf : EnvsOK Try.prog z1fw := ⟨z0p (z0q z1j0) (z0x _), z0t _, z0u _⟩
def zgp : Shp := ⟨27, 0, [(4, .pt 0 (.one (.arr 8 .leaf)) []), (5, .pt 1 (.one (.arr 8 .leaf)) [])], [.var 25 (.d c1), .var 25 (.d c1)]⟩
def z7g : XS := .one (.exit 0) zgp.xe
theorem zph : z7g.OK := XS.one_ok (z0c zgp)
def z6t : Shp := ⟨27, 0, [(3, .pt 0 (.one (.arr 8 .leaf)) []), (4, .pt 1 (.one (.arr 8 .leaf)) []), (5, .pt 2 (.one (.arr 8 .leaf)) []), (6, .d .bool), (9, .d c19), (10, .d (.int .i64))], [.var 31 (.d (.arr 8 .bool)), .var 25 (.d c1), .var 25 (.d c1)]⟩
abbrev zcm := Bool × (List (List Int)) × Int × (List Bool) × (List Int) × (List Int)
abbrev zhw := ((List Int) × (List Int))
def zco (t6 : Bool) (t9 : List (List Int)) (t10 : Int) (who : List Bool) (t4 : List Int) (out : List Int) : Option (zcm ⊕ zhw) :=
 bif ltI t10 8 then
 (idxI t9 t10).bind fun x =>
 bif inI t10 8 then
 (who[t10.toNat]?).bind fun x2 =>
 bif !x2 then
 some (.inl (t6, t9, W64 (t10 + 1), who, t4, out))
 else
 bif t6 then
 (zyn out x).bind fun r =>
 some (.inl (t6, t9, W64 (t10 + 1), who, t4, r))
 else
 some (.inl (true, t9, W64 (t10 + 1), who, t4, x))
 else none
 else
 some (.inr (t4, out))
def z3n (s : zcm) : Option (zcm ⊕ zhw) := zco s.1 s.2.1 s.2.2.1 s.2.2.2.1 s.2.2.2.2.1 s.2.2.2.2.2
theorem zqj : SoundD Try.prog (.loop (subC (bodyC Try.f48) [1, 1, 1, 0, 1, 0, 0])) (loopD z6t.xe z7g (loopC z3n)) :=
 z0w (S := z6t.xe) (X := z7g) zxf (h := .no) (z0o [] (by kernel_rfl) trivial) (z0c z6t) zph z3n (fun s => by kernel_rfl)
def zwu : Shp := ⟨1, 0, [(0, .d c1)], []⟩
def z13r : XS := .one .ret zwu.xe
theorem z1br : z13r.OK := XS.one_ok (z0c zwu)
def zmp (t : List (List Int)) (who : List Bool) : Option (((List Int))) :=
 (loopC z3n (false, t, 0, who, List.replicate 8 (0 : Int), List.replicate 8 (0 : Int))).bind fun o =>
 some o.2
def ztg : Sig := ⟨48, [.d c19, .d (.arr 8 .bool)], [], 0, z13r⟩
def zqg (x : (List (List Int)) × (List Bool)) : Option (((List Int))) := zmp x.1 x.2
theorem z10m : FnOK Try.prog ztg zqg :=
 fn_ok zxf (h := (.two .no (.two .no (.two .no (.two (.two .no (.over (loopD z6t.xe z7g (loopC z3n)))) .no))))) Try.func48 (z0o [.den (.loop (subC (bodyC Try.f48) [1, 1, 1, 0, 1, 0, 0])) (loopD z6t.xe z7g (loopC z3n))] (by kernel_rfl) ⟨zqj, trivial⟩) (by kernel_rfl) z1br (fun x => by kernel_rfl)
def z1km : Env := ⟨[], [], []⟩
theorem z11u : EnvsOK Try.prog z1km := ⟨z0x _, z0t _, z0u _⟩
def zn3 : Shp := ⟨21, 0, [(2, .pt 0 (.one (.arr 8 .leaf)) []), (4, .pt 1 (.one (.arr 8 .leaf)) [])], [.var 25 (.d c1), .var 25 (.d c1)]⟩
def zay : XS := .one (.exit 0) zn3.xe
theorem zxo : zay.OK := XS.one_ok (z0c zn3)
def zb0 : Shp := ⟨21, 0, [(2, .pt 0 (.one (.arr 8 .leaf)) []), (4, .pt 1 (.one (.arr 8 .leaf)) []), (7, .d c1), (8, .d (.int .i64))], [.var 25 (.d c1), .var 25 (.d c1)]⟩
abbrev zij := (List Int) × Int × (List Int) × (List Int)
abbrev zpy := ((List Int) × (List Int))
def zho (t7 : List Int) (t8 : Int) (a : List Int) (t4 : List Int) : Option (zij ⊕ zpy) :=
 bif ltI t8 8 then
 (idxI t7 t8).bind fun x =>
 bif inI t8 8 then
 (a[t8.toNat]?).bind fun x2 =>
 bif inI t8 8 then
 (a[t8.toNat]?).bind fun _x =>
 some (.inl (t7, W64 (t8 + 1), a.set t8.toNat (maxI x2 x), t4))
 else none
 else none
 else
 some (.inr (a, t4))
def z7d (s : zij) : Option (zij ⊕ zpy) := zho s.1 s.2.1 s.2.2.1 s.2.2.2
theorem zyi : SoundD Try.prog (.loop (subC (bodyC Try.f76) [1, 0, 1, 0, 0])) (loopD zb0.xe zay (loopC z7d)) :=
 z0w (S := zb0.xe) (X := zay) z11u (h := .no) (z0o [] (by kernel_rfl) trivial) (z0c zb0) zxo z7d (fun s => by kernel_rfl)
def z12w : Shp := ⟨1, 0, [(0, .d c1)], []⟩
def z1a5 : XS := .one .ret z12w.xe
theorem z1ey : z1a5.OK := XS.one_ok (z0c z12w)
def zyk (a : List Int) (b : List Int) : Option (((List Int))) :=
 (loopC z7d (b, 0, a, List.replicate 8 (0 : Int))).bind fun o =>
 some o.1
def z1b8 : Sig := ⟨76, [.d c1, .d c1], [], 0, z1a5⟩
def z16p (x : (List Int) × (List Int)) : Option (((List Int))) := zyk x.1 x.2
theorem z1ic : FnOK Try.prog z1b8 z16p :=
 fn_ok z11u (h := (.two .no (.two (.two .no (.over (loopD zb0.xe zay (loopC z7d)))) .no))) Try.func76 (z0o [.den (.loop (subC (bodyC Try.f76) [1, 0, 1, 0, 0])) (loopD zb0.xe zay (loopC z7d))] (by kernel_rfl) ⟨zyi, trivial⟩) (by kernel_rfl) z1ey (fun x => by kernel_rfl)
def z1ia : Env := ⟨[(entQ z1b8 z16p)], [], []⟩
theorem z10n : EnvsOK Try.prog z1ia := ⟨z0p (z0q z1ic) (z0x _), z0t _, z0u _⟩
def zja : Shp := ⟨15, 0, [(2, .pt 0 (.one (.arr 8 .leaf)) []), (3, .pt 1 (.one (.arr 8 .leaf)) [])], [.var 25 (.d c1), .var 25 (.d c1)]⟩
def z9j : XS := .one (.exit 0) zja.xe
theorem zte : z9j.OK := XS.one_ok (z0c zja)
def z9i : Shp := ⟨15, 0, [(2, .pt 0 (.one (.arr 8 .leaf)) []), (3, .pt 1 (.one (.arr 8 .leaf)) []), (6, .d c19), (7, .d (.int .i64))], [.var 25 (.d c1), .var 25 (.d c1)]⟩
abbrev zf8 := (List (List Int)) × Int × (List Int) × (List Int)
abbrev zl9 := ((List Int) × (List Int))
def zf4 (t6 : List (List Int)) (t7 : Int) (t2 : List Int) (out : List Int) : Option (zf8 ⊕ zl9) :=
 bif ltI t7 8 then
 (idxI t6 t7).bind fun x =>
 (zyk out x).bind fun r =>
 some (.inl (t6, W64 (t7 + 1), t2, r))
 else
 some (.inr (t2, out))
def z4z (s : zf8) : Option (zf8 ⊕ zl9) := zf4 s.1 s.2.1 s.2.2.1 s.2.2.2
theorem zu4 : SoundD Try.prog (.loop (subC (bodyC Try.f49) [1, 1, 0, 1, 0, 0])) (loopD z9i.xe z9j (loopC z4z)) :=
 z0w (S := z9i.xe) (X := z9j) z10n (h := .no) (z0o [] (by kernel_rfl) trivial) (z0c z9i) zte z4z (fun s => by kernel_rfl)
def zzp : Shp := ⟨1, 0, [(0, .d c1)], []⟩
def z18b : XS := .one .ret zzp.xe
theorem z1d6 : z18b.OK := XS.one_ok (z0c zzp)
def zve (t : List (List Int)) : Option (((List Int))) :=
 (loopC z4z (t, 0, List.replicate 8 (0 : Int), List.replicate 8 (0 : Int))).bind fun o =>
 some o.2
def z17i : Sig := ⟨49, [.d c19], [], 0, z18b⟩
def z13e (x : (List (List Int))) : Option (((List Int))) := zve x
theorem z1gm : FnOK Try.prog z17i z13e :=
 fn_ok z10n (h := (.two .no (.two .no (.two (.two .no (.over (loopD z9i.xe z9j (loopC z4z)))) .no)))) Try.func49 (z0o [.den (.loop (subC (bodyC Try.f49) [1, 1, 0, 1, 0, 0])) (loopD z9i.xe z9j (loopC z4z))] (by kernel_rfl) ⟨zu4, trivial⟩) (by kernel_rfl) z1d6 (fun x => by kernel_rfl)
def z1f8 : Env := ⟨[(entQ ztg zqg), (entQ z17i z13e)], [], []⟩
theorem z1b6 : EnvsOK Try.prog z1f8 := ⟨z0p (z0q z10m) (z0p (z0q z1gm) (z0x _)), z0t _, z0u _⟩
def zuo : Shp := ⟨1, 0, [(0, .d c20)], []⟩
def z11b : XS := .one .ret zuo.xe
theorem z18u : z11b.OK := XS.one_ok (z0c zuo)
def zw8 (t : List (List Int)) (who : List Bool) : Option ((T6)) :=
 (zmp t who).bind fun r =>
 (zve t).bind fun r2 =>
 some (r, r2)
def z10i : Sig := ⟨22, [.d c19, .d (.arr 8 .bool)], [], 0, z11b⟩
def zwm (x : (List (List Int)) × (List Bool)) : Option ((T6)) := zw8 x.1 x.2
theorem z1cm : FnOK Try.prog z10i zwm :=
 fn_ok z1b6 (h := .no) Try.func22 (z0o [] (by kernel_rfl) trivial) (by kernel_rfl) z18u (fun x => by kernel_rfl)
def z1ep : Env := ⟨[], [], []⟩
theorem zn1 : EnvsOK Try.prog z1ep := ⟨z0x _, z0t _, z0u _⟩
def z9h : Shp := ⟨40, 0, [(1, .d (.int .i64)), (3, .pt 0 r21 []), (5, .pt 1 (.one (.arr 8 .leaf)) []), (6, .pt 2 r21 []), (7, .d (.int .i64)), (8, .d (.int .i64)), (31, .d .bool)], [.var 55 (.d c19), .var 25 (.d c1), .var 55 (.d c19)]⟩
def z5i : XS := .one .normal z9h.xe
theorem zeo : z5i.OK := XS.one_ok (z0c z9h)
def zbj : Shp := ⟨40, 0, [(1, .d (.int .i64)), (3, .pt 0 r21 []), (5, .pt 1 (.one (.arr 8 .leaf)) []), (6, .pt 2 r21 []), (7, .d (.int .i64))], [.var 55 (.d c19), .var 25 (.d c1), .var 55 (.d c19)]⟩
def z3i : XS := .one (.exit 2) zbj.xe
theorem zi3 : z3i.OK := XS.one_ok (z0c zbj)
def z3f : Shp := ⟨40, 0, [(1, .d (.int .i64)), (3, .pt 0 r21 []), (5, .pt 1 (.one (.arr 8 .leaf)) []), (6, .pt 2 r21 []), (7, .d (.int .i64)), (8, .d (.int .i64))], [.var 55 (.d c19), .var 25 (.d c1), .var 55 (.d c19)]⟩
abbrev z8u := Int × Int × Int × (List (List Int)) × (List Int) × (List (List Int))
abbrev zcf := (Int × Int × (List (List Int)) × (List Int) × (List (List Int)))
def z9c (rep : Int) (i : Int) (k : Int) (t : List (List Int)) (v : List Int) (t6 : List (List Int)) : Option (z8u ⊕ zcf) :=
 bif ltI k 8 then
 (show Option ((Int × Int × Int × Bool × (List (List Int)) × (List Int) × (List (List Int)))) from
 bif eqI (W64 (i + 1)) rep then
 bif inI k 8 then
 (v[k.toNat]?).bind fun x =>
 bif inI i 8 then
 bif inI k 8 then
 (t[i.toNat]?).bind fun x2 =>
 (x2[k.toNat]?).bind fun x3 =>
 some (rep, i, k, ltI x3 x, t, v, t6)
 else none
 else none
 else none
 else
 some (rep, i, k, false, t, v, t6)).bind fun j =>
 bif j.2.2.2.1 then
 bif inI j.2.2.1 8 then
 (j.2.2.2.2.2.1[j.2.2.1.toNat]?).bind fun x4 =>
 bif inI j.2.1 8 then
 bif inI j.2.2.1 8 then
 (j.2.2.2.2.1[j.2.1.toNat]?).bind fun x5 =>
 (x5[j.2.2.1.toNat]?).bind fun _x =>
 some (.inl (j.1, j.2.1, W64 (j.2.2.1 + 1), j.2.2.2.2.1.set j.2.1.toNat (x5.set j.2.2.1.toNat x4), j.2.2.2.2.2.1, j.2.2.2.2.2.2))
 else none
 else none
 else none
 else
 some (.inl (j.1, j.2.1, W64 (j.2.2.1 + 1), j.2.2.2.2.1, j.2.2.2.2.2.1, j.2.2.2.2.2.2))
 else
 some (.inr (rep, i, t, v, t6))
def z1k (s : z8u) : Option (z8u ⊕ zcf) := z9c s.1 s.2.1 s.2.2.1 s.2.2.2.1 s.2.2.2.2.1 s.2.2.2.2.2
theorem zj2 : SoundD Try.prog (.loop (subC (bodyC Try.f50) [1, 0, 1, 0, 0, 1, 0, 0, 1, 0, 0])) (loopD z3f.xe z3i (loopC z1k)) :=
 z0w (S := z3f.xe) (X := z3i) zn1 (h := (.two .no (.two (.join (fun _ => z5i) .no .no) .no))) (z0o [.xs (fun _ => z5i)] (by kernel_rfl) ⟨(z5r zeo), trivial⟩) (z0c z3f) zi3 z1k (fun s => by kernel_rfl)
def zjk : Shp := ⟨40, 0, [(3, .pt 0 r21 []), (6, .pt 1 r21 [])], [.var 55 (.d c19), .var 55 (.d c19)]⟩
def z9q : XS := .one (.exit 0) zjk.xe
theorem zso : z9q.OK := XS.one_ok (z0c zjk)
def z9l : Shp := ⟨40, 0, [(1, .d (.int .i64)), (3, .pt 0 r21 []), (5, .pt 1 (.one (.arr 8 .leaf)) []), (6, .pt 2 r21 []), (7, .d (.int .i64))], [.var 55 (.d c19), .var 25 (.d c1), .var 55 (.d c19)]⟩
abbrev zfa := Int × Int × (List (List Int)) × (List Int) × (List (List Int))
abbrev zlk := ((List (List Int)) × (List (List Int)))
def zf3 (rep : Int) (i : Int) (t : List (List Int)) (v : List Int) (t6 : List (List Int)) : Option (zfa ⊕ zlk) :=
 bif ltI i 8 then
 (loopC z1k (rep, i, 0, t, v, t6)).bind fun o =>
 some (.inl (o.1, W64 (o.2.1 + 1), o.2.2.1, o.2.2.2.1, o.2.2.2.2))
 else
 some (.inr (t, t6))
def z4v (s : zfa) : Option (zfa ⊕ zlk) := zf3 s.1 s.2.1 s.2.2.1 s.2.2.2.1 s.2.2.2.2
theorem ztx : SoundD Try.prog (.loop (subC (bodyC Try.f50) [1, 0, 1, 0, 0])) (loopD z9l.xe z9q (loopC z4v)) :=
 z0w (S := z9l.xe) (X := z9q) zn1 (h := (.two .no (.two (.two .no (.over (loopD z3f.xe z3i (loopC z1k)))) .no))) (z0o [.den (.loop (subC (bodyC Try.f50) [1, 0, 1, 0, 0, 1, 0, 0, 1, 0, 0])) (loopD z3f.xe z3i (loopC z1k))] (by kernel_rfl) ⟨zj2, trivial⟩) (z0c z9l) zso z4v (fun s => by kernel_rfl)
def zun : Shp := ⟨1, 0, [(0, .d c19)], []⟩
def z10e : XS := .one .ret zun.xe
theorem z19k : z10e.OK := XS.one_ok (z0c zun)
def zox (t : List (List Int)) (rep : Int) (v : List Int) : Option (((List (List Int)))) :=
 (loopC z4v (rep, 0, t, v, List.replicate 8 (List.replicate 8 (0 : Int)))).bind fun o =>
 some o.1
def z11a : Sig := ⟨50, [.d c19, .d (.int .i64), .d c1], [], 0, z10e⟩
def zy4 (x : (List (List Int)) × Int × (List Int)) : Option (((List (List Int)))) := zox x.1 x.2.1 x.2.2
theorem z1cu : FnOK Try.prog z11a zy4 :=
 fn_ok zn1 (h := (.two .no (.two (.two .no (.over (loopD z9l.xe z9q (loopC z4v)))) .no))) Try.func50 (z0o [.den (.loop (subC (bodyC Try.f50) [1, 0, 1, 0, 0])) (loopD z9l.xe z9q (loopC z4v))] (by kernel_rfl) ⟨ztx, trivial⟩) (by kernel_rfl) z19k (fun x => by kernel_rfl)
def z1gg : Env := ⟨[(entQ z11a zy4)], [], []⟩
theorem zw9 : EnvsOK Try.prog z1gg := ⟨z0p (z0q z1cu) (z0x _), z0t _, z0u _⟩
def zkl : Shp := ⟨18, 0, [(2, .pt 0 r21 []), (4, .pt 1 r21 [])], [.var 55 (.d c19), .var 55 (.d c19)]⟩
def z9t : XS := .one (.exit 0) zkl.xe
theorem ztt : z9t.OK := XS.one_ok (z0c zkl)
def za3 : Shp := ⟨18, 0, [(2, .pt 0 r21 []), (3, .pt 1 r21 []), (4, .pt 2 r21 []), (5, .d (.int .i64))], [.var 55 (.d c19), .var 55 (.d c19), .var 55 (.d c19)]⟩
abbrev zfy := Int × (List (List Int)) × (List (List Int)) × (List (List Int))
abbrev zn2 := ((List (List Int)) × (List (List Int)))
def zg1 (i : Int) (a : List (List Int)) (b : List (List Int)) (t4 : List (List Int)) : Option (zfy ⊕ zn2) :=
 bif ltI i 8 then
 bif inI i 8 then
 (b[i.toNat]?).bind fun x =>
 (zox a (W64 (i + 1)) x).bind fun r =>
 some (.inl (W64 (i + 1), r, b, t4))
 else none
 else
 some (.inr (a, t4))
def z5h (s : zfy) : Option (zfy ⊕ zn2) := zg1 s.1 s.2.1 s.2.2.1 s.2.2.2
theorem zvk : SoundD Try.prog (.loop (subC (bodyC Try.f23) [1, 0, 1, 0, 0])) (loopD za3.xe z9t (loopC z5h)) :=
 z0w (S := za3.xe) (X := z9t) zw9 (h := .no) (z0o [] (by kernel_rfl) trivial) (z0c za3) ztt z5h (fun s => by kernel_rfl)
def zwf : Shp := ⟨1, 0, [(0, .d c19)], []⟩
def z14j : XS := .one .ret zwf.xe
theorem z1c7 : z14j.OK := XS.one_ok (z0c zwf)
def zr8 (a : List (List Int)) (b : List (List Int)) : Option (((List (List Int)))) :=
 (loopC z5h (0, a, b, List.replicate 8 (List.replicate 8 (0 : Int)))).bind fun o =>
 some o.1
def z13f : Sig := ⟨23, [.d c19, .d c19], [], 0, z14j⟩
def z10v (x : (List (List Int)) × (List (List Int))) : Option (((List (List Int)))) := zr8 x.1 x.2
theorem z1f9 : FnOK Try.prog z13f z10v :=
 fn_ok zw9 (h := (.two .no (.two (.two .no (.over (loopD za3.xe z9t (loopC z5h)))) .no))) Try.func23 (z0o [.den (.loop (subC (bodyC Try.f23) [1, 0, 1, 0, 0])) (loopD za3.xe z9t (loopC z5h))] (by kernel_rfl) ⟨zvk, trivial⟩) (by kernel_rfl) z1c7 (fun x => by kernel_rfl)
def z1gj : Env := ⟨[], [], []⟩
theorem zom : EnvsOK Try.prog z1gj := ⟨z0x _, z0t _, z0u _⟩
def z8d : Shp := ⟨44, 0, [(2, .pt 0 r21 []), (3, .pt 1 (.one (.arr 8 .leaf)) []), (4, .pt 2 (.one (.arr 8 .leaf)) []), (5, .pt 3 (.one (.arr 8 .leaf)) []), (6, .d (.int .i64)), (7, .d .bool), (8, .d (.int .i64)), (35, .d .bool)], [.var 55 (.d c19), .var 31 (.d (.arr 8 .bool)), .var 25 (.d c1), .var 25 (.d c1)]⟩
def z4j : XS := .one .normal z8d.xe
theorem zd3 : z4j.OK := XS.one_ok (z0c z8d)
def zak : Shp := ⟨44, 0, [(2, .pt 0 r21 []), (3, .pt 1 (.one (.arr 8 .leaf)) []), (4, .pt 2 (.one (.arr 8 .leaf)) []), (5, .pt 3 (.one (.arr 8 .leaf)) []), (6, .d (.int .i64))], [.var 55 (.d c19), .var 31 (.d (.arr 8 .bool)), .var 25 (.d c1), .var 25 (.d c1)]⟩
def z2q : XS := .one (.exit 2) zak.xe
theorem zgg : z2q.OK := XS.one_ok (z0c zak)
def z2o : Shp := ⟨44, 0, [(2, .pt 0 r21 []), (3, .pt 1 (.one (.arr 8 .leaf)) []), (4, .pt 2 (.one (.arr 8 .leaf)) []), (5, .pt 3 (.one (.arr 8 .leaf)) []), (6, .d (.int .i64)), (7, .d .bool), (8, .d (.int .i64))], [.var 55 (.d c19), .var 31 (.d (.arr 8 .bool)), .var 25 (.d c1), .var 25 (.d c1)]⟩
abbrev z6z := Int × Bool × Int × (List (List Int)) × (List Bool) × (List Int) × (List Int)
abbrev zbb := (Int × (List (List Int)) × (List Bool) × (List Int) × (List Int))
def z6u (k : Int) (t7 : Bool) (i : Int) (t : List (List Int)) (who : List Bool) (t4 : List Int) (out : List Int) : Option (z6z ⊕ zbb) :=
 bif ltI i 8 then
 (show Option ((Int × Bool × Int × Bool × (List (List Int)) × (List Bool) × (List Int) × (List Int))) from
 bif inI i 8 then
 (who[i.toNat]?).bind fun x =>
 bif x then
 bif !t7 then
 some (k, t7, i, true, t, who, t4, out)
 else
 bif inI i 8 then
 bif inI k 8 then
 (t[i.toNat]?).bind fun x2 =>
 (x2[k.toNat]?).bind fun x3 =>
 bif inI k 8 then
 (out[k.toNat]?).bind fun x4 =>
 some (k, t7, i, ltI x3 x4, t, who, t4, out)
 else none
 else none
 else none
 else
 some (k, t7, i, false, t, who, t4, out)
 else none).bind fun j =>
 bif j.2.2.2.1 then
 bif inI j.2.2.1 8 then
 bif inI j.1 8 then
 (j.2.2.2.2.1[j.2.2.1.toNat]?).bind fun x5 =>
 (x5[j.1.toNat]?).bind fun x6 =>
 bif inI j.1 8 then
 (j.2.2.2.2.2.2.2[j.1.toNat]?).bind fun _x =>
 some (.inl (j.1, true, W64 (j.2.2.1 + 1), j.2.2.2.2.1, j.2.2.2.2.2.1, j.2.2.2.2.2.2.1, j.2.2.2.2.2.2.2.set j.1.toNat x6))
 else none
 else none
 else none
 else
 some (.inl (j.1, j.2.1, W64 (j.2.2.1 + 1), j.2.2.2.2.1, j.2.2.2.2.2.1, j.2.2.2.2.2.2.1, j.2.2.2.2.2.2.2))
 else
 some (.inr (k, t, who, t4, out))
def z1g (s : z6z) : Option (z6z ⊕ zbb) := z6u s.1 s.2.1 s.2.2.1 s.2.2.2.1 s.2.2.2.2.1 s.2.2.2.2.2.1 s.2.2.2.2.2.2
theorem zgz : SoundD Try.prog (.loop (subC (bodyC Try.f24) [1, 1, 0, 1, 0, 0, 1, 0, 0, 1, 1, 0, 0])) (loopD z2o.xe z2q (loopC z1g)) :=
 z0w (S := z2o.xe) (X := z2q) zom (h := (.two .no (.two (.join (fun _ => z4j) .no .no) .no))) (z0o [.xs (fun _ => z4j)] (by kernel_rfl) ⟨(z5r zd3), trivial⟩) (z0c z2o) zgg z1g (fun s => by kernel_rfl)
def zht : Shp := ⟨44, 0, [(4, .pt 0 (.one (.arr 8 .leaf)) []), (5, .pt 1 (.one (.arr 8 .leaf)) [])], [.var 25 (.d c1), .var 25 (.d c1)]⟩
def z8n : XS := .one (.exit 0) zht.xe
theorem zrp : z8n.OK := XS.one_ok (z0c zht)
def z8l : Shp := ⟨44, 0, [(2, .pt 0 r21 []), (3, .pt 1 (.one (.arr 8 .leaf)) []), (4, .pt 2 (.one (.arr 8 .leaf)) []), (5, .pt 3 (.one (.arr 8 .leaf)) []), (6, .d (.int .i64))], [.var 55 (.d c19), .var 31 (.d (.arr 8 .bool)), .var 25 (.d c1), .var 25 (.d c1)]⟩
abbrev zed := Int × (List (List Int)) × (List Bool) × (List Int) × (List Int)
abbrev zkm := ((List Int) × (List Int))
def zeb (k : Int) (t : List (List Int)) (who : List Bool) (t4 : List Int) (out : List Int) : Option (zed ⊕ zkm) :=
 bif ltI k 8 then
 (loopC z1g (k, false, 0, t, who, t4, out)).bind fun o =>
 some (.inl (W64 (o.1 + 1), o.2.1, o.2.2.1, o.2.2.2.1, o.2.2.2.2))
 else
 some (.inr (t4, out))
def z4c (s : zed) : Option (zed ⊕ zkm) := zeb s.1 s.2.1 s.2.2.1 s.2.2.2.1 s.2.2.2.2
theorem zsv : SoundD Try.prog (.loop (subC (bodyC Try.f24) [1, 1, 0, 1, 0, 0])) (loopD z8l.xe z8n (loopC z4c)) :=
 z0w (S := z8l.xe) (X := z8n) zom (h := (.two .no (.two (.two .no (.two .no (.over (loopD z2o.xe z2q (loopC z1g))))) .no))) (z0o [.den (.loop (subC (bodyC Try.f24) [1, 1, 0, 1, 0, 0, 1, 0, 0, 1, 1, 0, 0])) (loopD z2o.xe z2q (loopC z1g))] (by kernel_rfl) ⟨zgz, trivial⟩) (z0c z8l) zrp z4c (fun s => by kernel_rfl)
def zwd : Shp := ⟨1, 0, [(0, .d c1)], []⟩
def z12z : XS := .one .ret zwd.xe
theorem z1an : z12z.OK := XS.one_ok (z0c zwd)
def zj3 (t : List (List Int)) (who : List Bool) : Option (((List Int))) :=
 (loopC z4c (0, t, who, List.replicate 8 (0 : Int), List.replicate 8 (0 : Int))).bind fun o =>
 some o.2
def z14c : Sig := ⟨24, [.d c19, .d (.arr 8 .bool)], [], 0, z12z⟩
def zzq (x : (List (List Int)) × (List Bool)) : Option (((List Int))) := zj3 x.1 x.2
theorem z1ev : FnOK Try.prog z14c zzq :=
 fn_ok zom (h := (.two .no (.two .no (.two (.two .no (.over (loopD z8l.xe z8n (loopC z4c)))) .no)))) Try.func24 (z0o [.den (.loop (subC (bodyC Try.f24) [1, 1, 0, 1, 0, 0])) (loopD z8l.xe z8n (loopC z4c))] (by kernel_rfl) ⟨zsv, trivial⟩) (by kernel_rfl) z1an (fun x => by kernel_rfl)
def z1il : Env := ⟨[(entQ zi0 zgi)], [], []⟩
theorem zzo : EnvsOK Try.prog z1il := ⟨z0p (z0q zkw) (z0x _), z0t _, z0u _⟩
def zjb : Shp := ⟨16, 0, [(2, .pt 0 (.one (.arr 8 .leaf)) []), (3, .pt 1 (.one (.arr 8 .leaf)) [])], [.var 25 (.d c1), .var 25 (.d c1)]⟩
def z9p : XS := .one (.exit 0) zjb.xe
theorem zsb : z9p.OK := XS.one_ok (z0c zjb)
def z9o : Shp := ⟨16, 0, [(1, .pt 0 r21 []), (2, .pt 1 (.one (.arr 8 .leaf)) []), (3, .pt 2 (.one (.arr 8 .leaf)) []), (4, .d (.int .i64))], [.var 55 (.d c19), .var 25 (.d c1), .var 25 (.d c1)]⟩
abbrev zf6 := Int × (List (List Int)) × (List Int) × (List Int)
abbrev zlx := ((List Int) × (List Int))
def zet (i : Int) (t : List (List Int)) (t2 : List Int) (out : List Int) : Option (zf6 ⊕ zlx) :=
 bif ltI i 8 then
 bif inI i 8 then
 (t[i.toNat]?).bind fun x =>
 (zg0 out x).bind fun r =>
 some (.inl (W64 (i + 1), t, t2, r))
 else none
 else
 some (.inr (t2, out))
def z4k (s : zf6) : Option (zf6 ⊕ zlx) := zet s.1 s.2.1 s.2.2.1 s.2.2.2
theorem zu3 : SoundD Try.prog (.loop (subC (bodyC Try.f25) [1, 1, 0, 1, 0, 0])) (loopD z9o.xe z9p (loopC z4k)) :=
 z0w (S := z9o.xe) (X := z9p) zzo (h := .no) (z0o [] (by kernel_rfl) trivial) (z0c z9o) zsb z4k (fun s => by kernel_rfl)
def z10c : Shp := ⟨1, 0, [(0, .d c1)], []⟩
def z17x : XS := .one .ret z10c.xe
theorem z1d9 : z17x.OK := XS.one_ok (z0c z10c)
def zua (t : List (List Int)) : Option (((List Int))) :=
 (loopC z4k (0, t, List.replicate 8 (0 : Int), List.replicate 8 (0 : Int))).bind fun o =>
 some o.2
def z17z : Sig := ⟨25, [.d c19], [], 0, z17x⟩
def z15f (x : (List (List Int))) : Option (((List Int))) := zua x
theorem z1gv : FnOK Try.prog z17z z15f :=
 fn_ok zzo (h := (.two .no (.two .no (.two (.two .no (.over (loopD z9o.xe z9p (loopC z4k)))) .no)))) Try.func25 (z0o [.den (.loop (subC (bodyC Try.f25) [1, 1, 0, 1, 0, 0])) (loopD z9o.xe z9p (loopC z4k))] (by kernel_rfl) ⟨zu3, trivial⟩) (by kernel_rfl) z1d9 (fun x => by kernel_rfl)
def z1fb : Env := ⟨[(entQ ztg zqg), (entQ z12k zyy)], [], []⟩
theorem z1bb : EnvsOK Try.prog z1fb := ⟨z0p (z0q z10m) (z0p (z0q z1a2) (z0x _)), z0t _, z0u _⟩
def zvg : Shp := ⟨1, 0, [(0, .d .bool)], []⟩
def z10f : XS := .one .ret zvg.xe
theorem z18y : z10f.OK := XS.one_ok (z0c zvg)
def zow (p : T6) (t : List (List Int)) (who : List Bool) : Option ((Bool)) :=
 (zmp t who).bind fun r =>
 (zxu p.2 r).bind fun r2 =>
 some r2
def zzu : Sig := ⟨26, [.d c20, .d c19, .d (.arr 8 .bool)], [], 0, z10f⟩
def zx8 (x : T6 × (List (List Int)) × (List Bool)) : Option ((Bool)) := zow x.1 x.2.1 x.2.2
theorem z1ck : FnOK Try.prog zzu zx8 :=
 fn_ok z1bb (h := .no) Try.func26 (z0o [] (by kernel_rfl) trivial) (by kernel_rfl) z18y (fun x => by kernel_rfl)
def z12r : Env := ⟨[(entQ z11d zxe), (entQ z10i zwm), (entQ z13f z10v), (entQ z14c zzq), (entQ z17z z15f), (entQ zzu zx8), (entQ z18c z13x)], [], []⟩
theorem zze : EnvsOK Try.prog z12r := ⟨z0p (z0q z1ci) (z0p (z0q z1cm) (z0p (z0q z1f9) (z0p (z0q z1ev) (z0p (z0q z1gv) (z0p (z0q z1ck) (z0p (z0q z1gp) (z0x _))))))), z0t _, z0u _⟩
def zng : Shp := ⟨1, 0, [(0, .d .bool)], []⟩
def zpo : XS := .one .ret zng.xe
theorem zwx : zpo.OK := XS.one_ok (z0c zng)
def zl7 (t : List (List Int)) (u : List (List Int)) (who : List Bool) : Option ((Bool)) :=
 (zoy).bind fun r =>
 bif !r then
 some false
 else
 (zw8 t who).bind fun r2 =>
 (zr8 t u).bind fun r3 =>
 (zj3 t who).bind fun r4 =>
 bif eqU c1 r2.1 r4 then
 (zua t).bind fun r5 =>
 bif eqU c1 r2.2 r5 then
 (zow r2 r3 who).bind fun r6 =>
 (zj3 r3 who).bind fun r7 =>
 (zpt r2.2 r7).bind fun r8 =>
 bif r6 == r8 then
 (zow r2 u who).bind fun r9 =>
 (zj3 u who).bind fun r10 =>
 (zpt r2.2 r10).bind fun r11 =>
 some (r9 == r11)
 else
 some false
 else
 some false
 else
 some false
def z14s : Sig := ⟨7, [.d c19, .d c19, .d (.arr 8 .bool)], [], 0, zpo⟩
def znx (x : (List (List Int)) × (List (List Int)) × (List Bool)) : Option ((Bool)) := zl7 x.1 x.2.1 x.2.2
theorem z11l : FnOK Try.prog z14s znx :=
 fn_ok zze (h := .no) Try.func7 (z0o [] (by kernel_rfl) trivial) (by kernel_rfl) zwx (fun x => by kernel_rfl)
end Go.Proofs.Ytfbdjicfkcklfaa
set_option maxRecDepth 100000
set_option linter.unusedSimpArgs false
set_option linter.unusedVariables false
namespace Go.Proofs.Ytfbdjicfkcklfaa
open Go.Tm Go.Ab
theorem z1e {A : Type} {a b : T0} {x y : Option A} {Q : A → Prop} (h : a = b → Ok x Q) (g : ¬ a = b → Ok y Q) : Ok (bif eqU c0 a b then x else y) Q := z1g6 (u := c0) rfl h g
def VecOk (v : List Int) : Prop := v.length = 8
def joinV (a b : List Int) : List Int := List.zipWith (fun x y => if x < y then y else x) a b
theorem zoa {a b : List Int} (ha : VecOk a) (hb : VecOk b) : VecOk (joinV a b) := by unfold VecOk joinV at *; simp [ha, hb]
def fillV (v : List Int) (i : Nat) : List Int := v.take i ++ List.replicate (8 - i) 0
theorem z13u {v : List Int} (h : v.length = 8) {i : Nat} (hi : i ≤ 8) : (fillV v i).length = 8 := by unfold fillV; simp; omega
theorem zum {v : List Int} (h : v.length = 8) {i : Nat} (hi : i < 8) {x : Int} (hx : x = v[i]) : (fillV v i).set i x = fillV v (i + 1) := by
 unfold fillV
 rw [List.set_append_right _ _ (by simp; omega), hx, List.take_succ_eq_append_getElem (by omega), List.append_assoc]
 have : i - (List.take i v).length = 0 := by simp; omega
 rw [this, show 8 - i = (8 - (i + 1)) + 1 by omega, List.replicate_succ]; rfl
theorem z1kl {v : List Int} (h : v.length = 8) {i : Nat} (hi : i < 8) (hx : v[i] = 0) : fillV v i = fillV v (i + 1) := by
 unfold fillV
 rw [List.take_succ_eq_append_getElem (by omega), hx, show 8 - i = (8 - (i + 1)) + 1 by omega, List.replicate_succ]; simp
theorem z14z {v : List Int} (h : v.length = 8) : fillV v 8 = v := by unfold fillV; rw [List.take_of_length_le (by omega)]; simp
theorem z15w {a b : List Int} (ha : VecOk a) (hb : VecOk b) : zg0 a b = some (joinV a b) := by
 refine ok_is ?_
 have hj := zoa ha hb
 unfold VecOk at ha hb hj
 unfold zg0
 refine z0a (z1y 8 (fun i _ => ((i : Int), a, b, List.replicate 8 (0 : Int), fillV (joinV a b) i)) (fun _ (_ : Unit) => True) () rfl trivial (fun _ _ => ?_) fun i _ hi _ => ?_)
 · unfold z4d zeh
   dsimp only
   repeat' first
     | (dsimp only [Int.toNat_natCast, List.length_nil])
     | with_reducible first | refine z0f ?_ | refine z0g ?_ | refine z0d ?_ | refine z0e ?_ | refine z0b ?_ | refine z0i ?_ | refine qs ?_ | refine qb ?_ | refine z0n ?_ | refine qw ?_ | refine z0j ?_ | refine z0l ?_ | refine qi ?_ | refine qg (h := ?_) | refine qx (h := ?_) | refine qy (h := ?_) | refine qa ?_ | refine qc ?_ | refine ql ?_ | refine qp ?_ | refine z0a ?_ | rfl
     | (with_reducible first | refine ok_lt ?_ ?_ | refine ok_le ?_ ?_ | refine z0h ?_ ?_ | refine z0k ?_ ?_ | refine z0m ?_ ?_ | refine qu ?_ ?_ | refine ok_if ?_ ?_) <;> intro _ <;> try (exfalso; omega)
   exact z14z hj
 · unfold z4d zeh
   dsimp only
   have hl := z13u hj (i := i) (by omega)
   have hji : (joinV a b)[i] = if a[i] < b[i] then b[i] else a[i] := by simp [joinV]
   repeat' first
     | (dsimp only [Int.toNat_natCast, List.length_nil])
     | with_reducible first | refine z0f ?_ | refine z0g ?_ | refine z0d ?_ | refine z0e ?_ | refine z0b ?_ | refine z0i ?_ | refine qs ?_ | refine qb ?_ | refine z0n ?_ | refine qw ?_ | refine z0j ?_ | refine z0l ?_ | refine qi ?_ | refine qg (h := ?_) | refine qx (h := ?_) | refine qy (h := ?_) | refine qa ?_ | refine qc ?_ | refine ql ?_ | refine qp ?_ | refine z0a ?_ | rfl
     | (with_reducible first | refine ok_lt ?_ ?_ | refine ok_le ?_ ?_ | refine z0h ?_ ?_ | refine z0k ?_ ?_ | refine z0m ?_ ?_ | refine qu ?_ ?_ | refine ok_if ?_ ?_) <;> intro _ <;> try (exfalso; omega)
   · rename_i h1 h2
     refine ⟨(), ?_, trivial⟩
     rw [z0s (by omega)]
     try simp only [Int.toNat_natCast] at h2 ⊢
     rw [List.set_set, zum hj hi (hji.trans (if_pos h2)).symm]; rfl
   · rename_i h1 h2
     refine ⟨(), ?_, trivial⟩
     rw [z0s (by omega)]
     try simp only [Int.toNat_natCast] at h2 ⊢
     rw [zum hj hi (hji.trans (if_neg h2)).symm]; rfl
def oneV (id : T0) : List Int := (List.range 8).map fun i : Nat => if (i : Int) + 1 = id.1 then id.2 else 0
theorem zew (id : T0) : VecOk (oneV id) := by unfold VecOk oneV; simp
theorem z1qs (id : T0) : zvj id = some (oneV id) := by
 refine ok_is ?_
 have hj := zew id
 unfold VecOk at hj
 unfold zvj
 refine z0a (z1y 8 (fun i _ => ((i : Int), id, List.replicate 8 (0 : Int), fillV (oneV id) i)) (fun _ (_ : Unit) => True) () rfl trivial (fun _ _ => ?_) fun i _ hi _ => ?_)
 · unfold z4l zf2
   dsimp only
   repeat' first
     | (dsimp only [Int.toNat_natCast, List.length_nil])
     | with_reducible first | refine z0f ?_ | refine z0g ?_ | refine z0d ?_ | refine z0e ?_ | refine z0b ?_ | refine z0i ?_ | refine qs ?_ | refine qb ?_ | refine z0n ?_ | refine qw ?_ | refine z0j ?_ | refine z0l ?_ | refine qi ?_ | refine qg (h := ?_) | refine qx (h := ?_) | refine qy (h := ?_) | refine qa ?_ | refine qc ?_ | refine ql ?_ | refine qp ?_ | refine z0a ?_ | rfl
     | (with_reducible first | refine ok_lt ?_ ?_ | refine ok_le ?_ ?_ | refine z0h ?_ ?_ | refine z0k ?_ ?_ | refine z0m ?_ ?_ | refine qu ?_ ?_ | refine ok_if ?_ ?_) <;> intro _ <;> try (exfalso; omega)
   exact z14z hj
 · unfold z4l zf2
   dsimp only
   have hl := z13u hj (i := i) (by omega)
   have hji : (oneV id)[i] = if (i : Int) + 1 = id.1 then id.2 else 0 := by simp [oneV]
   repeat' first
     | (dsimp only [Int.toNat_natCast, List.length_nil])
     | with_reducible first | refine z0f ?_ | refine z0g ?_ | refine z0d ?_ | refine z0e ?_ | refine z0b ?_ | refine z0i ?_ | refine qs ?_ | refine qb ?_ | refine z0n ?_ | refine qw ?_ | refine z0j ?_ | refine z0l ?_ | refine qi ?_ | refine qg (h := ?_) | refine qx (h := ?_) | refine qy (h := ?_) | refine qa ?_ | refine qc ?_ | refine ql ?_ | refine qp ?_ | refine z0a ?_ | rfl
     | (with_reducible first | refine ok_lt ?_ ?_ | refine ok_le ?_ ?_ | refine z0h ?_ ?_ | refine z0k ?_ ?_ | refine z0m ?_ ?_ | refine qu ?_ ?_ | refine ok_if ?_ ?_) <;> intro _ <;> try (exfalso; omega)
   · rename_i h1 h2
     refine ⟨(), ?_, trivial⟩
     rw [z0s (by omega)] at h2 ⊢
     try simp only [Int.toNat_natCast]
     rw [zum hj hi (hji.trans (if_pos h2)).symm]; rfl
   · rename_i h1 h2
     refine ⟨(), ?_, trivial⟩
     rw [z0s (by omega)] at h2 ⊢
     rw [z1kl hj hi (hji.trans (if_neg h2))]; rfl
def withV (v : List Int) (id : T0) : List Int := joinV v (oneV id)
theorem zog {v : List Int} (h : VecOk v) (id : T0) : VecOk (withV v id) := zoa h (zew id)
theorem zs5 {v : List Int} (h : VecOk v) (id : T0) : zca v id = some (withV v id) := by
 unfold zca; rw [z1qs]; simp only [Option.bind_some]; rw [z15w h (zew id)]; rfl
def getV (v : List Int) (rep : Int) : Int := if 1 ≤ rep ∧ rep ≤ 8 then (v[(rep - 1).toNat]?).getD 0 else 0
theorem z1qy {v : List Int} (h : VecOk v) (rep : Int) : zur v rep = some (getV v rep) := by
 refine ok_is ?_
 unfold VecOk at h
 unfold zur
 refine z0a (z1y 8 (fun i _ => (rep, (i : Int), v)) (fun i (_ : Unit) => ¬ (1 ≤ rep ∧ rep ≤ i)) () rfl (by omega) (fun _ hn => ?_) fun i _ hi hn => ?_)
 · unfold z5x zgs
   dsimp only
   repeat' first
     | (dsimp only [Int.toNat_natCast, List.length_nil])
     | with_reducible first | refine z0f ?_ | refine z0g ?_ | refine z0d ?_ | refine z0e ?_ | refine z0b ?_ | refine z0i ?_ | refine qs ?_ | refine qb ?_ | refine z0n ?_ | refine qw ?_ | refine z0j ?_ | refine z0l ?_ | refine qi ?_ | refine qg (h := ?_) | refine qx (h := ?_) | refine qy (h := ?_) | refine qa ?_ | refine qc ?_ | refine ql ?_ | refine qp ?_ | refine z0a ?_ | rfl
     | (with_reducible first | refine ok_lt ?_ ?_ | refine ok_le ?_ ?_ | refine z0h ?_ ?_ | refine z0k ?_ ?_ | refine z0m ?_ ?_ | refine qu ?_ ?_ | refine ok_if ?_ ?_) <;> intro _ <;> try (exfalso; omega)
   unfold getV; rw [if_neg (by omega)]
 · unfold z5x zgs
   dsimp only
   repeat' first
     | (dsimp only [Int.toNat_natCast, List.length_nil])
     | with_reducible first | refine z0f ?_ | refine z0g ?_ | refine z0d ?_ | refine z0e ?_ | refine z0b ?_ | refine z0i ?_ | refine qs ?_ | refine qb ?_ | refine z0n ?_ | refine qw ?_ | refine z0j ?_ | refine z0l ?_ | refine qi ?_ | refine qg (h := ?_) | refine qx (h := ?_) | refine qy (h := ?_) | refine qa ?_ | refine qc ?_ | refine ql ?_ | refine qp ?_ | refine z0a ?_ | rfl
     | (with_reducible first | refine ok_lt ?_ ?_ | refine ok_le ?_ ?_ | refine z0h ?_ ?_ | refine z0k ?_ ?_ | refine z0m ?_ ?_ | refine qu ?_ ?_ | refine ok_if ?_ ?_) <;> intro _ <;> try (exfalso; omega)
   · rename_i h1 h2
     rw [z0s (by omega)] at h2
     unfold getV
     rw [if_pos (by omega), show (rep - 1).toNat = i by omega, getE (by omega)]; rfl
   · rename_i h1 h2
     rw [z0s (by omega)] at h2
     refine ⟨(), ?_, by omega⟩
     rw [z0s (by omega)]; rfl
def hasV (v : List Int) (id : T0) : Bool := ltI 0 id.2 && leI id.2 (getV v id.1)
theorem z1pk {v : List Int} (h : VecOk v) (rep : Int) : z15r v rep = some (getV v rep) := by
 refine ok_is ?_
 unfold VecOk at h
 unfold z15r
 by_cases h1 : 1 ≤ rep ∧ rep ≤ 8
 · rw [z0s (by omega)]
   repeat' first
     | (dsimp only [Int.toNat_natCast, List.length_nil])
     | with_reducible first | refine z0f ?_ | refine z0g ?_ | refine z0d ?_ | refine z0e ?_ | refine z0b ?_ | refine z0i ?_ | refine qs ?_ | refine qb ?_ | refine z0n ?_ | refine qw ?_ | refine z0j ?_ | refine z0l ?_ | refine qi ?_ | refine qg (h := ?_) | refine qx (h := ?_) | refine qy (h := ?_) | refine qa ?_ | refine qc ?_ | refine ql ?_ | refine qp ?_ | refine z0a ?_ | rfl
     | (with_reducible first | refine ok_lt ?_ ?_ | refine ok_le ?_ ?_ | refine z0h ?_ ?_ | refine z0k ?_ ?_ | refine z0m ?_ ?_ | refine qu ?_ ?_ | refine ok_if ?_ ?_) <;> intro _ <;> try (exfalso; omega)
   unfold getV
   rw [if_pos h1, getE (by omega)]; rfl
 · rw [show getV v rep = 0 by unfold getV; rw [if_neg h1]]
   repeat' first
     | (dsimp only [Int.toNat_natCast, List.length_nil])
     | with_reducible first | refine z0f ?_ | refine z0g ?_ | refine z0d ?_ | refine z0e ?_ | refine z0b ?_ | refine z0i ?_ | refine qs ?_ | refine qb ?_ | refine z0n ?_ | refine qw ?_ | refine z0j ?_ | refine z0l ?_ | refine qi ?_ | refine qg (h := ?_) | refine qx (h := ?_) | refine qy (h := ?_) | refine qa ?_ | refine qc ?_ | refine ql ?_ | refine qp ?_ | refine z0a ?_ | rfl
     | (with_reducible first | refine ok_lt ?_ ?_ | refine ok_le ?_ ?_ | refine z0h ?_ ?_ | refine z0k ?_ ?_ | refine z0m ?_ ?_ | refine qu ?_ ?_ | refine ok_if ?_ ?_) <;> intro _ <;> try (exfalso; omega)
theorem z1dc {v : List Int} (h : VecOk v) (id : T0) : zs2 v id = some (hasV v id) := by
 refine ok_is ?_
 unfold zs2 hasV
 rw [z1pk h]
 repeat' first
   | (dsimp only [Int.toNat_natCast, List.length_nil])
   | with_reducible first | refine z0f ?_ | refine z0g ?_ | refine z0d ?_ | refine z0e ?_ | refine z0b ?_ | refine z0i ?_ | refine qs ?_ | refine qb ?_ | refine z0n ?_ | refine qw ?_ | refine z0j ?_ | refine z0l ?_ | refine qi ?_ | refine qg (h := ?_) | refine qx (h := ?_) | refine qy (h := ?_) | refine qa ?_ | refine qc ?_ | refine ql ?_ | refine qp ?_ | refine z0a ?_ | rfl
   | (with_reducible first | refine ok_lt ?_ ?_ | refine ok_le ?_ ?_ | refine z0h ?_ ?_ | refine z0k ?_ ?_ | refine z0m ?_ ?_ | refine qu ?_ ?_ | refine ok_if ?_ ?_) <;> intro _ <;> try (exfalso; omega)
 · rw [ltI_t (by omega)]; rfl
 · rw [ltI_f (by omega)]; rfl
theorem z15n (a b : T0) : zct a b = some (ltI a.2 b.2 || (eqI a.2 b.2 && ltI a.1 b.1)) := by
 refine ok_is ?_
 unfold zct
 repeat' first
   | (dsimp only [Int.toNat_natCast, List.length_nil])
   | with_reducible first | refine z0f ?_ | refine z0g ?_ | refine z0d ?_ | refine z0e ?_ | refine z0b ?_ | refine z0i ?_ | refine qs ?_ | refine qb ?_ | refine z0n ?_ | refine qw ?_ | refine z0j ?_ | refine z0l ?_ | refine qi ?_ | refine qg (h := ?_) | refine qx (h := ?_) | refine qy (h := ?_) | refine qa ?_ | refine qc ?_ | refine ql ?_ | refine qp ?_ | refine z0a ?_ | rfl
   | (with_reducible first | refine ok_lt ?_ ?_ | refine ok_le ?_ ?_ | refine z0h ?_ ?_ | refine z0k ?_ ?_ | refine z0m ?_ ?_ | refine qu ?_ ?_ | refine ok_if ?_ ?_) <;> intro _ <;> try (exfalso; omega)
 · rw [ltI_t (by assumption)]; rfl
 · rename_i h1 h2
   rw [ltI_f h1, eqI_t h2]; rfl
 · rw [ltI_f (by assumption), eqI_f (by assumption)]; rfl
def leqV (a b : List Int) : Bool := (List.zip a b).all fun x => leI x.1 x.2
end Go.Proofs.Ytfbdjicfkcklfaa
set_option maxRecDepth 100000
set_option linter.unusedSimpArgs false
set_option linter.unusedVariables false
namespace Go.Proofs.Ytfbdjicfkcklfaa
open Go.Tm Go.Ab
def leV (a b : List Int) : Prop := ∀ i, i < 8 → (a[i]?).getD 0 ≤ (b[i]?).getD 0
theorem z1o6 (a : List Int) : leV a a := fun _ _ => Int.le_refl _
theorem z1na {a b c : List Int} (h : leV a b) (g : leV b c) : leV a c := fun i hi => Int.le_trans (h i hi) (g i hi)
theorem z18o {a b : List Int} (ha : VecOk a) (hb : VecOk b) (i : Nat) (hi : i < 8) : ((joinV a b)[i]?).getD 0 = if (a[i]?).getD 0 < (b[i]?).getD 0 then (b[i]?).getD 0 else (a[i]?).getD 0 := by
 unfold VecOk at ha hb
 have hj : (joinV a b).length = 8 := zoa ha hb
 rw [getE (by omega), getE (by omega), getE (by omega)]
 simp [joinV]
theorem z1bi {a b : List Int} (ha : VecOk a) (hb : VecOk b) : leV a (joinV a b) := fun i hi => by
 rw [z18o ha hb i hi]; split <;> omega
theorem z1i6 {a b : List Int} (ha : VecOk a) (hb : VecOk b) : leV b (joinV a b) := fun i hi => by
 rw [z18o ha hb i hi]; split <;> omega
theorem z1fm {a b c : List Int} (ha : VecOk a) (hb : VecOk b) (h : leV a c) (g : leV b c) : leV (joinV a b) c := fun i hi => by
 rw [z18o ha hb i hi]; have := h i hi; have := g i hi; split <;> omega
def zeroV : List Int := List.replicate 8 0
theorem zss : VecOk zeroV := List.length_replicate ..
theorem z1fr (i : Nat) : (zeroV[i]?).getD 0 = 0 := by unfold zeroV; rw [List.getElem?_replicate]; split <;> rfl
theorem z1j3 (id : T0) (i : Nat) (hi : i < 8) : ((oneV id)[i]?).getD 0 = if (i : Int) + 1 = id.1 then id.2 else 0 := by
 have hj : (oneV id).length = 8 := zew id
 rw [getE (by omega)]; simp [oneV]
def zn8 (v : List Int) (id : T0) : Prop := id.2 ≤ getV v id.1
def natV (v : List Int) : Prop := ∀ i, i < 8 → 0 ≤ (v[i]?).getD 0
theorem zuk : natV zeroV := fun i _ => by rw [z1fr]; omega
theorem zq0 {a b : List Int} (ha : VecOk a) (hb : VecOk b) (h : natV a) : natV (joinV a b) := fun i hi => Int.le_trans (h i hi) (z1bi ha hb i hi)
theorem z1pg {v : List Int} {id : T0} (h : natV v) (g : zn8 v id) : leV (oneV id) v := fun i hi => by
 rw [z1j3 id i hi]
 split
 · rename_i e
   unfold zn8 getV at g
   rw [if_pos (by omega), show (id.1 - 1).toNat = i by omega] at g
   exact g
 · exact h i hi
theorem z1i0 {v w : List Int} {id : T0} (hv : VecOk v) (h : leV v w) (hw : natV w) (g : zn8 w id) : leV (withV v id) w := z1fm hv (zew id) h (z1pg hw g)
theorem z1lp {v w : List Int} (h : leV v w) (r : Int) : getV v r ≤ getV w r := by
 unfold getV
 split
 · exact h _ (by omega)
 · exact Int.le_refl _
theorem z1iv {v w : List Int} {id : T0} (h : leV v w) (g : zn8 v id) : zn8 w id := Int.le_trans g (z1lp h _)
theorem z1in {v : List Int} (hv : VecOk v) {id : T0} (hr : 1 ≤ id.1 ∧ id.1 ≤ 8) : zn8 (withV v id) id := by
 have h := z1i6 hv (zew id) (id.1 - 1).toNat (by omega)
 rw [z1j3 id _ (by omega), if_pos (by omega)] at h
 unfold zn8 getV
 rw [if_pos hr]; exact h
abbrev zex (e : T1) : Int := e.2.2.1
abbrev zpg (e : T1) : List T0 := e.2.2.2.2.2.2.2.1
abbrev z1m7 (e : T1) : List T0 := e.2.2.2.2.2.2.1
abbrev z1r0 (e : T1) : List Int := e.2.2.2.2.2.2.2.2.2.1
abbrev evOff (e : T1) : Int := e.2.2.2.2.2.2.2.2.1
structure EvIn (e : T1) : Prop where
 dep : VecOk e.2.1
 nat : natV e.2.1
 name : e.2.2.2.2.2.1.length ≤ 30
 gone : (z1m7 e).length ≤ 10
 base : (zpg e).length ≤ 10
 data : (z1r0 e).length ≤ 250
 off : -9223372036854775808 ≤ evOff e ∧ evOff e ≤ 9223372036854775807
def Chain (l : List T1) : Prop := ∀ i (h : i < l.length), ∀ b, (zpg l[i])[0]? = some b → ∃ j, ∃ h : j < l.length, j < i ∧ l[j].1 = b
theorem in_is (l : List T0) (x : T0) (hl : l.length ≤ 1000) : ∃ b, zhu l x = some b := by
 have : Ok (zhu l x) (fun _ => True) := by
   unfold zhu
   refine z0a (z1y l.length (fun i _ => (l, (i : Int), x)) (fun _ (_ : Unit) => True) () rfl trivial (fun _ _ => ?_) fun i _ hi _ => ?_)
   · unfold z5f zdq
     dsimp only
     repeat' first
       | (dsimp only [Int.toNat_natCast, List.length_nil])
       | ((with_reducible refine z1e ?_ ?_) <;> intro _ <;> try (exfalso; omega))
       | with_reducible first | refine z0f ?_ | refine z0g ?_ | refine z0d ?_ | refine z0e ?_ | refine z0b ?_ | refine z0i ?_ | refine qs ?_ | refine qb ?_ | refine z0n ?_ | refine qw ?_ | refine z0j ?_ | refine z0l ?_ | refine qi ?_ | refine qg (h := ?_) | refine qx (h := ?_) | refine qy (h := ?_) | refine qa ?_ | refine qc ?_ | refine ql ?_ | refine qp ?_ | refine z0a ?_ | rfl
       | (with_reducible first | refine ok_lt ?_ ?_ | refine ok_le ?_ ?_ | refine z0h ?_ ?_ | refine z0k ?_ ?_ | refine z0m ?_ ?_ | refine qu ?_ ?_ | refine ok_if ?_ ?_) <;> intro _ <;> try (exfalso; omega)
   · unfold z5f zdq
     dsimp only
     repeat' first
       | (dsimp only [Int.toNat_natCast, List.length_nil])
       | ((with_reducible refine z1e ?_ ?_) <;> intro _ <;> try (exfalso; omega))
       | with_reducible first | refine z0f ?_ | refine z0g ?_ | refine z0d ?_ | refine z0e ?_ | refine z0b ?_ | refine z0i ?_ | refine qs ?_ | refine qb ?_ | refine z0n ?_ | refine qw ?_ | refine z0j ?_ | refine z0l ?_ | refine qi ?_ | refine qg (h := ?_) | refine qx (h := ?_) | refine qy (h := ?_) | refine qa ?_ | refine qc ?_ | refine ql ?_ | refine qp ?_ | refine z0a ?_ | rfl
       | (with_reducible first | refine ok_lt ?_ ?_ | refine ok_le ?_ ?_ | refine z0h ?_ ?_ | refine z0k ?_ ?_ | refine z0m ?_ ?_ | refine qu ?_ ?_ | refine ok_if ?_ ?_) <;> intro _ <;> try (exfalso; omega)
     exact ⟨(), by rw [z0s (by omega)]; rfl, trivial⟩
 obtain ⟨b, h, _⟩ := this
 exact ⟨b, h⟩
theorem z1e7 (e : T1) : zic e = some (eqI (zex e) 3 || (eqI (zex e) 4 || eqI (zex e) 5)) := by
 refine ok_is ?_
 unfold zic
 repeat' first
   | (dsimp only [Int.toNat_natCast, List.length_nil])
   | ((with_reducible refine z1e ?_ ?_) <;> intro _ <;> try (exfalso; omega))
   | with_reducible first | refine z0f ?_ | refine z0g ?_ | refine z0d ?_ | refine z0e ?_ | refine z0b ?_ | refine z0i ?_ | refine qs ?_ | refine qb ?_ | refine z0n ?_ | refine qw ?_ | refine z0j ?_ | refine z0l ?_ | refine qi ?_ | refine qg (h := ?_) | refine qx (h := ?_) | refine qy (h := ?_) | refine qa ?_ | refine qc ?_ | refine ql ?_ | refine qp ?_ | refine z0a ?_ | rfl
   | (with_reducible first | refine ok_lt ?_ ?_ | refine ok_le ?_ ?_ | refine z0h ?_ ?_ | refine z0k ?_ ?_ | refine z0m ?_ ?_ | refine qu ?_ ?_ | refine ok_if ?_ ?_) <;> intro _ <;> try (exfalso; omega)
 · rename_i h; rw [eqI_t h]; rfl
 · rename_i h g; rw [eqI_f h, eqI_t g]; rfl
 · rename_i h g; rw [eqI_f h, eqI_f g]; rfl
theorem z1pd (l : List T1) (x : T0) (hl : l.length ≤ 1000) : Ok (zrs l x) fun r => (r.2 = true ∧ ∃ i, ∃ h : i < l.length, r.1 = l[i] ∧ l[i].1 = x ∧ ∀ j (hj : j < l.length), j < i → ¬ l[j].1 = x) ∨ r.2 = false := by
 unfold zrs
 refine z0a (z1y l.length (fun i _ => (l, (i : Int), x, _)) (fun i (_ : Unit) => ∀ j (hj : j < l.length), j < i → ¬ l[j].1 = x) () rfl (fun j _ h => by omega) (fun _ _ => ?_) fun i _ hi hI => ?_)
 · unfold z5g zg4
   dsimp only
   repeat' first
     | (dsimp only [Int.toNat_natCast, List.length_nil])
     | ((with_reducible refine z1e ?_ ?_) <;> intro _ <;> try (exfalso; omega))
     | with_reducible first | refine z0f ?_ | refine z0g ?_ | refine z0d ?_ | refine z0e ?_ | refine z0b ?_ | refine z0i ?_ | refine qs ?_ | refine qb ?_ | refine z0n ?_ | refine qw ?_ | refine z0j ?_ | refine z0l ?_ | refine qi ?_ | refine qg (h := ?_) | refine qx (h := ?_) | refine qy (h := ?_) | refine qa ?_ | refine qc ?_ | refine ql ?_ | refine qp ?_ | refine z0a ?_ | rfl
     | (with_reducible first | refine ok_lt ?_ ?_ | refine ok_le ?_ ?_ | refine z0h ?_ ?_ | refine z0k ?_ ?_ | refine z0m ?_ ?_ | refine qu ?_ ?_ | refine ok_if ?_ ?_) <;> intro _ <;> try (exfalso; omega)
   exact .inr rfl
 · unfold z5g zg4
   dsimp only
   repeat' first
     | (dsimp only [Int.toNat_natCast, List.length_nil])
     | ((with_reducible refine z1e ?_ ?_) <;> intro _ <;> try (exfalso; omega))
     | with_reducible first | refine z0f ?_ | refine z0g ?_ | refine z0d ?_ | refine z0e ?_ | refine z0b ?_ | refine z0i ?_ | refine qs ?_ | refine qb ?_ | refine z0n ?_ | refine qw ?_ | refine z0j ?_ | refine z0l ?_ | refine qi ?_ | refine qg (h := ?_) | refine qx (h := ?_) | refine qy (h := ?_) | refine qa ?_ | refine qc ?_ | refine ql ?_ | refine qp ?_ | refine z0a ?_ | rfl
     | (with_reducible first | refine ok_lt ?_ ?_ | refine ok_le ?_ ?_ | refine z0h ?_ ?_ | refine z0k ?_ ?_ | refine z0m ?_ ?_ | refine qu ?_ ?_ | refine ok_if ?_ ?_) <;> intro _ <;> try (exfalso; omega)
   · rename_i h1 h2
     refine .inl ⟨rfl, i, hi, rfl, ?_, hI⟩
     exact h2
   · rename_i h1 h2
     refine ⟨(), by rw [z0s (by omega)]; rfl, fun j hj hlt => ?_⟩
     by_cases e : j = i
     · subst e; exact h2
     · exact hI j hj (by omega)
theorem z1ft (n : Int) (hn : n ≤ 1000) : Ok (zk8 n) fun r => r.length = n.toNat := by
 unfold zk8
 refine z0a (z1y n.toNat (fun i _ => (n, List.replicate i (0 : Int), (i : Int))) (fun _ (_ : Unit) => True) () rfl trivial (fun _ _ => ?_) fun i _ hi _ => ?_)
 · unfold z3u zda
   dsimp only
   repeat' first
     | (dsimp only [Int.toNat_natCast, List.length_nil])
     | ((with_reducible refine z1e ?_ ?_) <;> intro _ <;> try (exfalso; omega))
     | with_reducible first | refine z0f ?_ | refine z0g ?_ | refine z0d ?_ | refine z0e ?_ | refine z0b ?_ | refine z0i ?_ | refine qs ?_ | refine qb ?_ | refine z0n ?_ | refine qw ?_ | refine z0j ?_ | refine z0l ?_ | refine qi ?_ | refine qg (h := ?_) | refine qx (h := ?_) | refine qy (h := ?_) | refine qa ?_ | refine qc ?_ | refine ql ?_ | refine qp ?_ | refine z0a ?_ | rfl
     | (with_reducible first | refine ok_lt ?_ ?_ | refine ok_le ?_ ?_ | refine z0h ?_ ?_ | refine z0k ?_ ?_ | refine z0m ?_ ?_ | refine qu ?_ ?_ | refine ok_if ?_ ?_) <;> intro _ <;> try (exfalso; omega)
   exact List.length_replicate ..
 · unfold z3u zda
   dsimp only
   repeat' first
     | (dsimp only [Int.toNat_natCast, List.length_nil])
     | ((with_reducible refine z1e ?_ ?_) <;> intro _ <;> try (exfalso; omega))
     | with_reducible first | refine z0f ?_ | refine z0g ?_ | refine z0d ?_ | refine z0e ?_ | refine z0b ?_ | refine z0i ?_ | refine qs ?_ | refine qb ?_ | refine z0n ?_ | refine qw ?_ | refine z0j ?_ | refine z0l ?_ | refine qi ?_ | refine qg (h := ?_) | refine qx (h := ?_) | refine qy (h := ?_) | refine qa ?_ | refine qc ?_ | refine ql ?_ | refine qp ?_ | refine z0a ?_ | rfl
     | (with_reducible first | refine ok_lt ?_ ?_ | refine ok_le ?_ ?_ | refine z0h ?_ ?_ | refine z0k ?_ ?_ | refine z0m ?_ ?_ | refine qu ?_ ?_ | refine ok_if ?_ ?_) <;> intro _ <;> try (exfalso; omega)
   exact ⟨(), by rw [z0s (by omega), List.replicate_succ' (n := i)]; rfl, trivial⟩
theorem z1l6 (data : List Int) (n : Int) (hd : data.length ≤ 250) : Ok (zu7 data n) fun r => r.1.length ≤ 250 := by
 unfold zu7
 repeat' first
   | (dsimp only [Int.toNat_natCast, List.length_nil])
   | ((with_reducible refine z4f (z1ft _ ?_) ?_))
   | ((with_reducible refine z1e ?_ ?_) <;> intro _ <;> try (exfalso; omega))
   | with_reducible first | refine z0f ?_ | refine z0g ?_ | refine z0d ?_ | refine z0e ?_ | refine z0b ?_ | refine z0i ?_ | refine qs ?_ | refine qb ?_ | refine z0n ?_ | refine qw ?_ | refine z0j ?_ | refine z0l ?_ | refine qi ?_ | refine qg (h := ?_) | refine qx (h := ?_) | refine qy (h := ?_) | refine qa ?_ | refine qc ?_ | refine ql ?_ | refine qp ?_ | refine z0a ?_ | rfl
   | (with_reducible first | refine ok_lt ?_ ?_ | refine ok_le ?_ ?_ | refine z0h ?_ ?_ | refine z0k ?_ ?_ | refine z0m ?_ ?_ | refine qu ?_ ?_ | refine ok_if ?_ ?_) <;> intro _ <;> try (exfalso; omega)
 · exact Nat.zero_le _
 · exact Nat.zero_le _
 · rw [z0s (by omega)]; omega
 · intro r hr
   rw [z0s (by omega)] at hr
   repeat' first
     | (dsimp only [Int.toNat_natCast, List.length_nil])
     | ((with_reducible refine z1e ?_ ?_) <;> intro _ <;> try (exfalso; omega))
     | with_reducible first | refine z0f ?_ | refine z0g ?_ | refine z0d ?_ | refine z0e ?_ | refine z0b ?_ | refine z0i ?_ | refine qs ?_ | refine qb ?_ | refine z0n ?_ | refine qw ?_ | refine z0j ?_ | refine z0l ?_ | refine qi ?_ | refine qg (h := ?_) | refine qx (h := ?_) | refine qy (h := ?_) | refine qa ?_ | refine qc ?_ | refine ql ?_ | refine qp ?_ | refine z0a ?_ | rfl
     | (with_reducible first | refine ok_lt ?_ ?_ | refine ok_le ?_ ?_ | refine z0h ?_ ?_ | refine z0k ?_ ?_ | refine z0m ?_ ?_ | refine qu ?_ ?_ | refine ok_if ?_ ?_) <;> intro _ <;> try (exfalso; omega)
   show (subL _ _ _).length ≤ 250
   unfold subL; simp; omega
theorem z1gy (data : List Int) (off : Int) (t : List Int) (hd : data.length ≤ 250) (ht : t.length ≤ 250) (ho : -9223372036854775808 ≤ off ∧ off ≤ 9223372036854775807) : Ok (zoz data off t) fun r => r.1.length ≤ 250 := by
 unfold zoz
 by_cases h0 : off < 0
 · repeat' first
     | (dsimp only [Int.toNat_natCast, List.length_nil])
     | ((with_reducible refine z1e ?_ ?_) <;> intro _ <;> try (exfalso; omega))
     | with_reducible first | refine z0f ?_ | refine z0g ?_ | refine z0d ?_ | refine z0e ?_ | refine z0b ?_ | refine z0i ?_ | refine qs ?_ | refine qb ?_ | refine z0n ?_ | refine qw ?_ | refine z0j ?_ | refine z0l ?_ | refine qi ?_ | refine qg (h := ?_) | refine qx (h := ?_) | refine qy (h := ?_) | refine qa ?_ | refine qc ?_ | refine ql ?_ | refine qp ?_ | refine z0a ?_ | rfl
     | (with_reducible first | refine ok_lt ?_ ?_ | refine ok_le ?_ ?_ | refine z0h ?_ ?_ | refine z0k ?_ ?_ | refine z0m ?_ ?_ | refine qu ?_ ?_ | refine ok_if ?_ ?_) <;> intro _ <;> try (exfalso; omega)
   exact Nat.zero_le _
 by_cases h1 : 200 < off
 · repeat' first
     | (dsimp only [Int.toNat_natCast, List.length_nil])
     | ((with_reducible refine z1e ?_ ?_) <;> intro _ <;> try (exfalso; omega))
     | with_reducible first | refine z0f ?_ | refine z0g ?_ | refine z0d ?_ | refine z0e ?_ | refine z0b ?_ | refine z0i ?_ | refine qs ?_ | refine qb ?_ | refine z0n ?_ | refine qw ?_ | refine z0j ?_ | refine z0l ?_ | refine qi ?_ | refine qg (h := ?_) | refine qx (h := ?_) | refine qy (h := ?_) | refine qa ?_ | refine qc ?_ | refine ql ?_ | refine qp ?_ | refine z0a ?_ | rfl
     | (with_reducible first | refine ok_lt ?_ ?_ | refine ok_le ?_ ?_ | refine z0h ?_ ?_ | refine z0k ?_ ?_ | refine z0m ?_ ?_ | refine qu ?_ ?_ | refine ok_if ?_ ?_) <;> intro _ <;> try (exfalso; omega)
   exact Nat.zero_le _
 rw [z0s (n := off + (t.length : Nat)) (by omega), z0s (n := off + (t.length : Nat) - (data.length : Nat)) (by omega)]
 repeat' first
   | (dsimp only [Int.toNat_natCast, List.length_nil])
   | ((with_reducible refine z4f (z1ft _ (by omega)) ?_))
   | ((with_reducible refine z1e ?_ ?_) <;> intro _ <;> try (exfalso; omega))
   | with_reducible first | refine z0f ?_ | refine z0g ?_ | refine z0d ?_ | refine z0e ?_ | refine z0b ?_ | refine z0i ?_ | refine qs ?_ | refine qb ?_ | refine z0n ?_ | refine qw ?_ | refine z0j ?_ | refine z0l ?_ | refine qi ?_ | refine qg (h := ?_) | refine qx (h := ?_) | refine qy (h := ?_) | refine qa ?_ | refine qc ?_ | refine ql ?_ | refine qp ?_ | refine z0a ?_ | rfl
   | (with_reducible first | refine ok_lt ?_ ?_ | refine ok_le ?_ ?_ | refine z0h ?_ ?_ | refine z0k ?_ ?_ | refine z0m ?_ ?_ | refine qu ?_ ?_ | refine ok_if ?_ ?_) <;> intro _ <;> try (exfalso; omega)
 · exact Nat.zero_le _
 · exact Nat.zero_le _
 · intro r hr
   have e1 : (subL (data ++ r) 0 off).length = off.toNat := by unfold subL; simp; omega
   have e2 : (subL (data ++ r) (off + (t.length : Nat)) (((data ++ r).length : Nat) : Int)).length ≤ 250 := by unfold subL; simp; omega
   simp only [List.length_append] at e2
   repeat' first
     | (dsimp only [Int.toNat_natCast, List.length_nil])
     | ((with_reducible refine z1e ?_ ?_) <;> intro _ <;> try (exfalso; omega))
     | with_reducible first | refine z0f ?_ | refine z0g ?_ | refine z0d ?_ | refine z0e ?_ | refine z0b ?_ | refine z0i ?_ | refine qs ?_ | refine qb ?_ | refine z0n ?_ | refine qw ?_ | refine z0j ?_ | refine z0l ?_ | refine qi ?_ | refine qg (h := ?_) | refine qx (h := ?_) | refine qy (h := ?_) | refine qa ?_ | refine qc ?_ | refine ql ?_ | refine qp ?_ | refine z0a ?_ | rfl
     | (with_reducible first | refine ok_lt ?_ ?_ | refine ok_le ?_ ?_ | refine z0h ?_ ?_ | refine z0k ?_ ?_ | refine z0m ?_ ?_ | refine qu ?_ ?_ | refine ok_if ?_ ?_) <;> intro _ <;> try (exfalso; omega)
   · rw [List.length_append, List.length_append, e1]
     have : (subL (data ++ r) (off + (t.length : Nat)) (((data ++ r).length : Nat) : Int)).length = (data ++ r).length - (off + (t.length : Nat)).toNat := by unfold subL; simp; omega
     rw [this, List.length_append]; omega
theorem z1js : MonoR zgf := by
 intro r r' h x y hy
 unfold zgf zkr at *
 rw [Option.bind_eq_some_iff] at hy ⊢
 obtain ⟨f, h1, h2⟩ := hy
 refine ⟨f, h1, ?_⟩
 cases hf : f.2 with
 | false => rw [hf] at h2; exact h2
 | true =>
   rw [hf] at h2
   simp only [Bool.not_true, cond_false] at h2 ⊢
   cases hk : eqI f.1.2.2.1 5 with
   | true => rw [hk] at h2; exact h2
   | false =>
     rw [hk] at h2
     simp only [cond_false] at h2 ⊢
     rw [Option.bind_eq_some_iff] at h2 ⊢
     obtain ⟨j, h3, h4⟩ := h2
     refine ⟨j, ?_, h4⟩
     unfold z1f at h3 ⊢
     cases hb : Nat.ble f.1.2.2.2.2.2.2.2.1.length 9223372036854775807 with
     | false => rw [hb] at h3; cases h3
     | true =>
       rw [hb] at h3
       simp only [cond_true] at h3 ⊢
       cases hl : ltI 0 ((f.1.2.2.2.2.2.2.2.1.length : Nat) : Int) with
       | false => rw [hl] at h3; exact h3
       | true =>
         rw [hl] at h3
         simp only [cond_true] at h3 ⊢
         rw [Option.bind_eq_some_iff] at h3 ⊢
         obtain ⟨b, h5, h6⟩ := h3
         refine ⟨b, h5, ?_⟩
         rw [Option.bind_eq_some_iff] at h6 ⊢
         obtain ⟨d, h7, h8⟩ := h6
         exact ⟨d, h _ _ h7, h8⟩
theorem z1hg {l : List T1} (hl : l.length ≤ 1000) (hin : ∀ e, e ∈ l → EvIn e) (hc : Chain l) : ∀ (k : Nat) (x : T0), (∀ i (h : i < l.length), l[i].1 = x → (∀ j (hj : j < l.length), j < i → ¬ l[j].1 = x) → i < k) → Ok (iterR zgf (k + 1) (l, x)) fun d => d.length ≤ 250
 | k, x, hk => by
   show Ok (zkr (iterR zgf k) l x) _
   unfold zkr
   refine z4f (z1pd l x hl) fun f hf => ?_
   rcases hf with ⟨f1, i, hi, f2, f3, f4⟩ | f1
   · rw [f1]
     have he := hin _ (List.getElem_mem hi)
     have hik := hk i hi f3 f4
     have hb10 := he.base
     simp only [zpg] at hb10
     rw [← f2] at he hb10
     obtain ⟨e, b⟩ := f
     simp only at f1 f2 he hb10 ⊢
     repeat' first
       | (dsimp only [Int.toNat_natCast, List.length_nil])
       | ((with_reducible refine z1e ?_ ?_) <;> intro _ <;> try (exfalso; omega))
       | with_reducible first | refine z0f ?_ | refine z0g ?_ | refine z0d ?_ | refine z0e ?_ | refine z0b ?_ | refine z0i ?_ | refine qs ?_ | refine qb ?_ | refine z0n ?_ | refine qw ?_ | refine z0j ?_ | refine z0l ?_ | refine qi ?_ | refine qg (h := ?_) | refine qx (h := ?_) | refine qy (h := ?_) | refine qa ?_ | refine qc ?_ | refine ql ?_ | refine qp ?_ | refine z0a ?_ | rfl
       | (with_reducible first | refine ok_lt ?_ ?_ | refine ok_le ?_ ?_ | refine z0h ?_ ?_ | refine z0k ?_ ?_ | refine z0m ?_ ?_ | refine qu ?_ ?_ | refine ok_if ?_ ?_) <;> intro _ <;> try (exfalso; omega)
     · exact he.data
     · rename_i h5 h6
       have hb0 : 0 < (zpg e).length := by simp only [zpg]; omega
       refine z8i (R := fun d : List Int => d.length ≤ 250) ?_ fun d hd => ?_
       · obtain ⟨j, hj, hji, ej⟩ := hc i hi (zpg e)[0] (by rw [← f2, getE hb0])
         obtain ⟨k', rfl⟩ : ∃ k', k = k' + 1 := ⟨k - 1, by omega⟩
         refine z1hg hl hin hc k' _ fun i' h' e1 e2 => ?_
         have : i' ≤ j := by
           apply Classical.byContradiction
           intro hlt
           exact e2 j hj (by omega) ej
         omega
       · repeat' first
           | (dsimp only [Int.toNat_natCast, List.length_nil])
           | ((with_reducible refine z1e ?_ ?_) <;> intro _ <;> try (exfalso; omega))
           | with_reducible first | refine z0f ?_ | refine z0g ?_ | refine z0d ?_ | refine z0e ?_ | refine z0b ?_ | refine z0i ?_ | refine qs ?_ | refine qb ?_ | refine z0n ?_ | refine qw ?_ | refine z0j ?_ | refine z0l ?_ | refine qi ?_ | refine qg (h := ?_) | refine qx (h := ?_) | refine qy (h := ?_) | refine qa ?_ | refine qc ?_ | refine ql ?_ | refine qp ?_ | refine z0a ?_ | rfl
           | (with_reducible first | refine ok_lt ?_ ?_ | refine ok_le ?_ ?_ | refine z0h ?_ ?_ | refine z0k ?_ ?_ | refine z0m ?_ ?_ | refine qu ?_ ?_ | refine ok_if ?_ ?_) <;> intro _ <;> try (exfalso; omega)
         · refine z8i (z1l6 _ _ hd) fun _ h => ?_
           exact z0d h
         · refine z8i (z1gy _ _ _ hd he.data he.off) fun _ h => ?_
           exact z0d h
     · refine z8i (z1l6 _ _ (Nat.zero_le _)) fun _ h => ?_
       exact z0d h
     · refine z8i (z1gy _ _ _ (Nat.zero_le _) he.data he.off) fun _ h => ?_
       exact z0d h
   · rw [f1]
     repeat' first
       | (dsimp only [Int.toNat_natCast, List.length_nil])
       | ((with_reducible refine z1e ?_ ?_) <;> intro _ <;> try (exfalso; omega))
       | with_reducible first | refine z0f ?_ | refine z0g ?_ | refine z0d ?_ | refine z0e ?_ | refine z0b ?_ | refine z0i ?_ | refine qs ?_ | refine qb ?_ | refine z0n ?_ | refine qw ?_ | refine z0j ?_ | refine z0l ?_ | refine qi ?_ | refine qg (h := ?_) | refine qx (h := ?_) | refine qy (h := ?_) | refine qa ?_ | refine qc ?_ | refine ql ?_ | refine qp ?_ | refine z0a ?_ | rfl
       | (with_reducible first | refine ok_lt ?_ ?_ | refine ok_le ?_ ?_ | refine z0h ?_ ?_ | refine z0k ?_ ?_ | refine z0m ?_ ?_ | refine qu ?_ ?_ | refine ok_if ?_ ?_) <;> intro _ <;> try (exfalso; omega)
     exact Nat.zero_le _
theorem z1jq {l : List T1} (hl : l.length ≤ 1000) (hin : ∀ e, e ∈ l → EvIn e) (hc : Chain l) (x : T0) : Ok (z17g l x) fun d => d.length ≤ 250 :=
 z1qm z1js (z1hg hl hin hc l.length x fun i h _ _ => h)
end Go.Proofs.Ytfbdjicfkcklfaa
set_option maxRecDepth 100000
set_option linter.unusedSimpArgs false
set_option linter.unusedVariables false
namespace Go.Proofs.Ytfbdjicfkcklfaa
open Go.Tm Go.Ab
def zcq (l : List T1) : List Int := l.foldl (fun v e => withV v e.1) zeroV
theorem z1jr (l : List T1) (e : T1) : zcq (l ++ [e]) = withV (zcq l) e.1 := by simp [zcq]
theorem z19w : ∀ (l : List T1) (v : List Int), VecOk v → natV v → VecOk (l.foldl (fun v e => withV v e.1) v) ∧ natV (l.foldl (fun v e => withV v e.1) v) ∧ leV v (l.foldl (fun v e => withV v e.1) v)
 | [], v, h, g => ⟨h, g, z1o6 v⟩
 | e :: l, v, h, g => by
   obtain ⟨h1, h2, h3⟩ := z19w l (withV v e.1) (zog h _) (zq0 h (zew _) g)
   exact ⟨h1, h2, z1na (z1bi h (zew _)) h3⟩
theorem z17t : ∀ (l : List T1) (v : List Int), VecOk v → natV v → ∀ e, e ∈ l → 1 ≤ e.1.1 ∧ e.1.1 ≤ 8 → zn8 (l.foldl (fun v e => withV v e.1) v) e.1
 | a :: l, v, h, g, e, he, hr => by
   have hw := zog h a.1
   have hn := zq0 h (zew a.1) g
   rcases List.mem_cons.1 he with rfl | he
   · exact z1iv (z19w l _ hw hn).2.2 (z1in h hr)
   · exact z17t l _ hw hn e he hr
theorem zm2 (l : List T1) : VecOk (zcq l) ∧ natV (zcq l) := by
 obtain ⟨h1, h2, _⟩ := z19w l zeroV zss zuk
 exact ⟨h1, h2⟩
theorem z1oq (l : List T1) (hl : l.length ≤ 1000) : zou l = some (zcq l) := by
 refine ok_is ?_
 unfold zou
 refine z0a (z1y l.length (fun i _ => (l, (i : Int), List.replicate 8 (0 : Int), zcq (l.take i))) (fun _ (_ : Unit) => True) () rfl trivial (fun _ _ => ?_) fun i _ hi _ => ?_)
 · unfold z3w zd9
   dsimp only
   repeat' first
     | (dsimp only [Int.toNat_natCast, List.length_nil])
     | ((with_reducible refine z1e ?_ ?_) <;> intro _ <;> try (exfalso; omega))
     | with_reducible first | refine z0f ?_ | refine z0g ?_ | refine z0d ?_ | refine z0e ?_ | refine z0b ?_ | refine z0i ?_ | refine qs ?_ | refine qb ?_ | refine z0n ?_ | refine qw ?_ | refine z0j ?_ | refine z0l ?_ | refine qi ?_ | refine qg (h := ?_) | refine qx (h := ?_) | refine qy (h := ?_) | refine qa ?_ | refine qc ?_ | refine ql ?_ | refine qp ?_ | refine z0a ?_ | rfl
     | (with_reducible first | refine ok_lt ?_ ?_ | refine ok_le ?_ ?_ | refine z0h ?_ ?_ | refine z0k ?_ ?_ | refine z0m ?_ ?_ | refine qu ?_ ?_ | refine ok_if ?_ ?_) <;> intro _ <;> try (exfalso; omega)
   rw [List.take_length]
 · unfold z3w zd9
   dsimp only
   repeat' first
     | (dsimp only [Int.toNat_natCast, List.length_nil])
     | ((with_reducible refine ok_eq (zs5 (zm2 _).1 _) ?_))
     | ((with_reducible refine z1e ?_ ?_) <;> intro _ <;> try (exfalso; omega))
     | with_reducible first | refine z0f ?_ | refine z0g ?_ | refine z0d ?_ | refine z0e ?_ | refine z0b ?_ | refine z0i ?_ | refine qs ?_ | refine qb ?_ | refine z0n ?_ | refine qw ?_ | refine z0j ?_ | refine z0l ?_ | refine qi ?_ | refine qg (h := ?_) | refine qx (h := ?_) | refine qy (h := ?_) | refine qa ?_ | refine qc ?_ | refine ql ?_ | refine qp ?_ | refine z0a ?_ | rfl
     | (with_reducible first | refine ok_lt ?_ ?_ | refine ok_le ?_ ?_ | refine z0h ?_ ?_ | refine z0k ?_ ?_ | refine z0m ?_ ?_ | refine qu ?_ ?_ | refine ok_if ?_ ?_) <;> intro _ <;> try (exfalso; omega)
   exact ⟨(), by rw [z0s (by omega), List.take_succ_eq_append_getElem hi, z1jr]; rfl, trivial⟩
structure Evs (l : List T1) (K : List Int) : Prop where
 len : l.length ≤ 1000
 ev : ∀ e, e ∈ l → EvIn e
 chain : Chain l
 rep : ∀ e, e ∈ l → 1 ≤ e.1.1 ∧ e.1.1 ≤ 8
 vec : VecOk K
 nat : natV K
 means : ∀ e, e ∈ l → zn8 K e.1
 dep : ∀ e, e ∈ l → leV e.2.1 K
structure ByOk (K b : List Int) : Prop where
 v : VecOk b
 n : natV b
 le : leV b K
theorem ByOk.zero {l : List T1} {K : List Int} (h : Evs l K) : ByOk K (List.replicate 8 (0 : Int)) := ⟨zss, zuk, fun i hi => by have := z1fr i; unfold zeroV at this; rw [this]; exact h.nat i hi⟩
theorem ByOk.join {K a b : List Int} (h : ByOk K a) (g : ByOk K b) : ByOk K (joinV a b) := ⟨zoa h.v g.v, zq0 h.v g.v h.n, z1fm h.v g.v h.le g.le⟩
theorem ByOk.with {l : List T1} {K a : List Int} (h : Evs l K) (g : ByOk K a) {e : T1} (he : e ∈ l) : ByOk K (withV a e.1) := ⟨zog g.v _, zq0 g.v (zew _) g.n, z1i0 g.v g.le h.nat (h.means e he)⟩
structure EntOk (l : List T1) (K : List Int) (x : T2) : Prop where
 by' : ByOk K x.2.2.2.2
 ev : ∃ e, e ∈ l ∧ (zex e = 1 ∨ zex e = 2 ∨ zex e = 7) ∧ x.1 = e.1 ∧ x.2.1 = e.2.2.2.2.1 ∧ x.2.2.1 = e.2.2.2.2.2.1 ∧ x.2.2.2.1 = if zex e = 7 then e.2.2.2.1 else e.1
theorem z1r4 {P : T2 → Prop} (hv : ∀ y, P y → VecOk y.2.2.2.2) (hj : ∀ y z, P y → P z → P (y.1, y.2.1, y.2.2.1, y.2.2.2.1, joinV y.2.2.2.2 z.2.2.2.2)) (l : List T2) (x : T2) (hl : l.length ≤ 2000) (hp : ∀ y, y ∈ l → P y) (hx : P x) :
   Ok (zi9 l x) fun r => r.length ≤ l.length + 1 ∧ ∀ y, y ∈ r → P y := by
 unfold zi9
 repeat' first
   | (dsimp only [Int.toNat_natCast, List.length_nil])
   | ((with_reducible refine z1e ?_ ?_) <;> intro _ <;> try (exfalso; omega))
   | with_reducible first | refine z0f ?_ | refine z0g ?_ | refine z0d ?_ | refine z0e ?_ | refine z0b ?_ | refine z0i ?_ | refine qs ?_ | refine qb ?_ | refine z0n ?_ | refine qw ?_ | refine z0j ?_ | refine z0l ?_ | refine qi ?_ | refine qg (h := ?_) | refine qx (h := ?_) | refine qy (h := ?_) | refine qa ?_ | refine qc ?_ | refine ql ?_ | refine qp ?_ | refine z0a ?_ | rfl
   | (with_reducible first | refine ok_lt ?_ ?_ | refine ok_le ?_ ?_ | refine z0h ?_ ?_ | refine z0k ?_ ?_ | refine z0m ?_ ?_ | refine qu ?_ ?_ | refine ok_if ?_ ?_) <;> intro _ <;> try (exfalso; omega)
 refine z1y l.length (fun i (a : Bool × List T2) => (l, a.1, (i : Int), x, a.2)) (fun i a => a.2.length ≤ i + (if a.1 = true then 1 else 0) ∧ ∀ y, y ∈ a.2 → P y) (false, []) rfl ⟨Nat.zero_le _, fun y hy => by cases hy⟩ (fun a ha => ?_) fun i a hi ha => ?_
 · obtain ⟨put, out⟩ := a
   obtain ⟨h1, h2⟩ := ha
   unfold z2u zab
   dsimp only
   simp only at h1 h2
   have hb : out.length ≤ l.length + 1 := by split at h1 <;> omega
   cases put with
   | true =>
     repeat' first
       | (dsimp only [Int.toNat_natCast, List.length_nil])
       | ((with_reducible refine z1e ?_ ?_) <;> intro _ <;> try (exfalso; omega))
       | with_reducible first | refine z0f ?_ | refine z0g ?_ | refine z0d ?_ | refine z0e ?_ | refine z0b ?_ | refine z0i ?_ | refine qs ?_ | refine qb ?_ | refine z0n ?_ | refine qw ?_ | refine z0j ?_ | refine z0l ?_ | refine qi ?_ | refine qg (h := ?_) | refine qx (h := ?_) | refine qy (h := ?_) | refine qa ?_ | refine qc ?_ | refine ql ?_ | refine qp ?_ | refine z0a ?_ | rfl
       | (with_reducible first | refine ok_lt ?_ ?_ | refine ok_le ?_ ?_ | refine z0h ?_ ?_ | refine z0k ?_ ?_ | refine z0m ?_ ?_ | refine qu ?_ ?_ | refine ok_if ?_ ?_) <;> intro _ <;> try (exfalso; omega)
     exact ⟨hb, h2⟩
   | false =>
     simp only [Bool.false_eq_true, if_false] at h1
     repeat' first
       | (dsimp only [Int.toNat_natCast, List.length_nil])
       | ((with_reducible refine z1e ?_ ?_) <;> intro _ <;> try (exfalso; omega))
       | with_reducible first | refine z0f ?_ | refine z0g ?_ | refine z0d ?_ | refine z0e ?_ | refine z0b ?_ | refine z0i ?_ | refine qs ?_ | refine qb ?_ | refine z0n ?_ | refine qw ?_ | refine z0j ?_ | refine z0l ?_ | refine qi ?_ | refine qg (h := ?_) | refine qx (h := ?_) | refine qy (h := ?_) | refine qa ?_ | refine qc ?_ | refine ql ?_ | refine qp ?_ | refine z0a ?_ | rfl
       | (with_reducible first | refine ok_lt ?_ ?_ | refine ok_le ?_ ?_ | refine z0h ?_ ?_ | refine z0k ?_ ?_ | refine z0m ?_ ?_ | refine qu ?_ ?_ | refine ok_if ?_ ?_) <;> intro _ <;> try (exfalso; omega)
     refine ⟨by simp; omega, fun y hy => ?_⟩
     rcases List.mem_append.1 hy with hy | hy
     · exact h2 y hy
     · simp only [List.mem_singleton] at hy; subst hy; exact hx
 · obtain ⟨put, out⟩ := a
   obtain ⟨h1, h2⟩ := ha
   unfold z2u zab
   dsimp only
   simp only at h1 h2
   have hb : out.length ≤ i + 1 := by split at h1 <;> omega
   have hpi := hp _ (List.getElem_mem hi)
   have add : ∀ (o : List T2) (z : T2), (∀ y, y ∈ o → P y) → P z → ∀ y, y ∈ o ++ [z] → P y := fun o z ho hz y hy => by
     rcases List.mem_append.1 hy with hy | hy
     · exact ho y hy
     · simp only [List.mem_singleton] at hy; subst hy; exact hz
   repeat' first
     | (dsimp only [Int.toNat_natCast, List.length_nil])
     | ((with_reducible refine ok_eq (z15w (hv _ hpi) (hv _ hx)) ?_))
     | ((with_reducible refine ok_eq (z15n _ _) ?_))
     | ((with_reducible refine z1e ?_ ?_) <;> intro _ <;> try (exfalso; omega))
     | with_reducible first | refine z0f ?_ | refine z0g ?_ | refine z0d ?_ | refine z0e ?_ | refine z0b ?_ | refine z0i ?_ | refine qs ?_ | refine qb ?_ | refine z0n ?_ | refine qw ?_ | refine z0j ?_ | refine z0l ?_ | refine qi ?_ | refine qg (h := ?_) | refine qx (h := ?_) | refine qy (h := ?_) | refine qa ?_ | refine qc ?_ | refine ql ?_ | refine qp ?_ | refine z0a ?_ | rfl
     | (with_reducible first | refine ok_lt ?_ ?_ | refine ok_le ?_ ?_ | refine z0h ?_ ?_ | refine z0k ?_ ?_ | refine z0m ?_ ?_ | refine qu ?_ ?_ | refine ok_if ?_ ?_) <;> intro _ <;> try (exfalso; omega)
   · refine ⟨(true, _), by rw [z0s (by omega)]; rfl, ?_, add _ _ h2 (hj _ _ hpi hx)⟩
     simp only [if_true, List.length_append, List.length_singleton]; split at h1 <;> omega
   · rename_i e1
     subst e1
     simp only [if_true] at h1
     refine ⟨(true, _), by rw [z0s (by omega)]; rfl, ?_, add _ _ h2 hpi⟩
     simp only [if_true, List.length_append, List.length_singleton]; omega
   · rename_i e1 _
     subst e1
     simp only [Bool.false_eq_true, if_false] at h1
     refine ⟨(true, _), by rw [z0s (by omega)]; rfl, ?_, add _ _ (add _ _ h2 hx) hpi⟩
     simp only [if_true, List.length_append, List.length_singleton]; omega
   · rename_i e1 _
     subst e1
     simp only [Bool.false_eq_true, if_false] at h1
     refine ⟨(false, _), by rw [z0s (by omega)]; rfl, ?_, add _ _ h2 hpi⟩
     simp only [Bool.false_eq_true, if_false, List.length_append, List.length_singleton]; omega
theorem z1q8 {l : List T1} {K : List Int} (E : Evs l K) (out : List T2) (n : Int) (x : T2) (hx : ByOk K x.2.2.2.2) :
   Ok (loopC z0r (l, out, n, 0, x)) fun r => ∃ b, ByOk K b ∧ r = (l, out, n, (x.1, x.2.1, x.2.2.1, x.2.2.2.1, b)) := by
 have hl := E.len
 refine z1y l.length (fun k (b : List Int) => (l, out, n, (k : Int), (x.1, x.2.1, x.2.2.1, x.2.2.2.1, b))) (fun _ b => ByOk K b) x.2.2.2.2 rfl hx (fun b hb => ?_) fun k b hk hb => ?_
 · unfold z0r z1r
   dsimp only
   repeat' first
     | (dsimp only [Int.toNat_natCast, List.length_nil])
     | ((with_reducible refine z1e ?_ ?_) <;> intro _ <;> try (exfalso; omega))
     | with_reducible first | refine z0f ?_ | refine z0g ?_ | refine z0d ?_ | refine z0e ?_ | refine z0b ?_ | refine z0i ?_ | refine qs ?_ | refine qb ?_ | refine z0n ?_ | refine qw ?_ | refine z0j ?_ | refine z0l ?_ | refine qi ?_ | refine qg (h := ?_) | refine qx (h := ?_) | refine qy (h := ?_) | refine qa ?_ | refine qc ?_ | refine ql ?_ | refine qp ?_ | refine z0a ?_ | rfl
     | (with_reducible first | refine ok_lt ?_ ?_ | refine ok_le ?_ ?_ | refine z0h ?_ ?_ | refine z0k ?_ ?_ | refine z0m ?_ ?_ | refine qu ?_ ?_ | refine ok_if ?_ ?_) <;> intro _ <;> try (exfalso; omega)
   exact ⟨b, hb, rfl⟩
 · unfold z0r z1r
   dsimp only
   have go := (E.ev _ (List.getElem_mem hk)).gone
   have hw := ByOk.with E hb (List.getElem_mem hk)
   obtain ⟨e1, e2⟩ := in_is (z1m7 l[k]) x.1 (by omega)
   repeat' first
     | (dsimp only [Int.toNat_natCast, List.length_nil])
     | ((with_reducible refine ok_eq e2 ?_))
     | ((with_reducible refine ok_eq (zs5 hb.v _) ?_))
     | ((with_reducible refine z1e ?_ ?_) <;> intro _ <;> try (exfalso; omega))
     | with_reducible first | refine z0f ?_ | refine z0g ?_ | refine z0d ?_ | refine z0e ?_ | refine z0b ?_ | refine z0i ?_ | refine qs ?_ | refine qb ?_ | refine z0n ?_ | refine qw ?_ | refine z0j ?_ | refine z0l ?_ | refine qi ?_ | refine qg (h := ?_) | refine qx (h := ?_) | refine qy (h := ?_) | refine qa ?_ | refine qc ?_ | refine ql ?_ | refine qp ?_ | refine z0a ?_ | rfl
     | (with_reducible first | refine ok_lt ?_ ?_ | refine ok_le ?_ ?_ | refine z0h ?_ ?_ | refine z0k ?_ ?_ | refine z0m ?_ ?_ | refine qu ?_ ?_ | refine ok_if ?_ ?_) <;> intro _ <;> try (exfalso; omega)
   all_goals first
     | exact ⟨withV b l[k].1, by rw [z0s (by omega)]; rfl, hw⟩
     | exact ⟨b, by rw [z0s (by omega)]; rfl, hb⟩
theorem z1kv {l : List T1} {K : List Int} (E : Evs l K) : Ok (zbv l) fun r => r.length ≤ l.length ∧ (∀ x, x ∈ r → EntOk l K x) := by
 have hl := E.len
 unfold zbv
 refine z0a (z1y l.length (fun i (a : List T2) => (l, a, (i : Int))) (fun i a => a.length ≤ i ∧ ∀ x, x ∈ a → EntOk l K x) [] rfl ⟨Nat.zero_le _, fun x hx => by cases hx⟩ (fun a ha => ?_) fun i a hi ha => ?_)
 · unfold z2g z6i
   dsimp only
   repeat' first
     | (dsimp only [Int.toNat_natCast, List.length_nil])
     | ((with_reducible refine z1e ?_ ?_) <;> intro _ <;> try (exfalso; omega))
     | with_reducible first | refine z0f ?_ | refine z0g ?_ | refine z0d ?_ | refine z0e ?_ | refine z0b ?_ | refine z0i ?_ | refine qs ?_ | refine qb ?_ | refine z0n ?_ | refine qw ?_ | refine z0j ?_ | refine z0l ?_ | refine qi ?_ | refine qg (h := ?_) | refine qx (h := ?_) | refine qy (h := ?_) | refine qa ?_ | refine qc ?_ | refine ql ?_ | refine qp ?_ | refine z0a ?_ | rfl
     | (with_reducible first | refine ok_lt ?_ ?_ | refine ok_le ?_ ?_ | refine z0h ?_ ?_ | refine z0k ?_ ?_ | refine z0m ?_ ?_ | refine qu ?_ ?_ | refine ok_if ?_ ?_) <;> intro _ <;> try (exfalso; omega)
   exact ha
 · unfold z2g z6i
   dsimp only
   have hm := List.getElem_mem hi
   have pok : ∀ x, EntOk l K x → Ok (zi9 a x) fun r => r.length ≤ i + 1 ∧ ∀ y, y ∈ r → EntOk l K y := fun x hx =>
     z8i (z1r4 (fun y hy => hy.by'.v) (fun y z hy hz => ⟨hy.by'.join hz.by', hy.ev⟩) a x (by omega) ha.2 hx) fun r hr => ⟨by omega, hr.2⟩
   repeat' first
     | (dsimp only [Int.toNat_natCast, List.length_nil])
     | ((with_reducible refine z4f (z1q8 E _ _ _ (ByOk.zero E)) ?_); rintro _ ⟨b, hb, rfl⟩)
     | ((with_reducible refine z4f (pok _ ⟨hb, _, hm, ?_⟩) ?_))
     | ((with_reducible refine z1e ?_ ?_) <;> intro _ <;> try (exfalso; omega))
     | with_reducible first | refine z0f ?_ | refine z0g ?_ | refine z0d ?_ | refine z0e ?_ | refine z0b ?_ | refine z0i ?_ | refine qs ?_ | refine qb ?_ | refine z0n ?_ | refine qw ?_ | refine z0j ?_ | refine z0l ?_ | refine qi ?_ | refine qg (h := ?_) | refine qx (h := ?_) | refine qy (h := ?_) | refine qa ?_ | refine qc ?_ | refine ql ?_ | refine qp ?_ | refine z0a ?_ | rfl
     | (with_reducible first | refine ok_lt ?_ ?_ | refine ok_le ?_ ?_ | refine z0h ?_ ?_ | refine z0k ?_ ?_ | refine z0m ?_ ?_ | refine qu ?_ ?_ | refine ok_if ?_ ?_) <;> intro _ <;> try (exfalso; omega)
   all_goals first
     | exact ⟨a, by rw [z0s (by omega)]; rfl, by omega, ha.2⟩
     | (rintro r ⟨g1, g2⟩
        repeat' first
          | (dsimp only [Int.toNat_natCast, List.length_nil])
          | ((with_reducible refine z1e ?_ ?_) <;> intro _ <;> try (exfalso; omega))
          | with_reducible first | refine z0f ?_ | refine z0g ?_ | refine z0d ?_ | refine z0e ?_ | refine z0b ?_ | refine z0i ?_ | refine qs ?_ | refine qb ?_ | refine z0n ?_ | refine qw ?_ | refine z0j ?_ | refine z0l ?_ | refine qi ?_ | refine qg (h := ?_) | refine qx (h := ?_) | refine qy (h := ?_) | refine qa ?_ | refine qc ?_ | refine ql ?_ | refine qp ?_ | refine z0a ?_ | rfl
          | (with_reducible first | refine ok_lt ?_ ?_ | refine ok_le ?_ ?_ | refine z0h ?_ ?_ | refine z0k ?_ ?_ | refine z0m ?_ ?_ | refine qu ?_ ?_ | refine ok_if ?_ ?_) <;> intro _ <;> try (exfalso; omega)
        exact ⟨r, by rw [z0s (by omega)]; rfl, g1, g2⟩)
     | (rename_i h1 h2
        exact ⟨.inl h1, rfl, rfl, rfl, by rw [if_neg h2]⟩)
     | (rename_i h1 h2
        exact ⟨.inr (.inl h1), rfl, rfl, rfl, by rw [if_neg h2]⟩)
     | (rename_i h1 h2
        exact ⟨.inr (.inr h1), rfl, rfl, rfl, by rw [if_pos h2]⟩)
end Go.Proofs.Ytfbdjicfkcklfaa
set_option maxRecDepth 100000
set_option linter.unusedSimpArgs false
set_option linter.unusedVariables false
namespace Go.Proofs.Ytfbdjicfkcklfaa
open Go.Tm Go.Ab
theorem z1os (l : List T3) (x : T0) (hl : l.length ≤ 2000) : Ok (zpd l x) fun _ => True := by
 unfold zpd
 refine z0a (z1y l.length (fun i _ => (l, (i : Int), x)) (fun _ (_ : Unit) => True) () rfl trivial (fun _ _ => ?_) fun i _ hi _ => ?_)
 · unfold z6b zgu
   dsimp only
   repeat' first
     | (dsimp only [Int.toNat_natCast, List.length_nil])
     | ((with_reducible refine z1e ?_ ?_) <;> intro _ <;> try (exfalso; omega))
     | with_reducible first | refine z0f ?_ | refine z0g ?_ | refine z0d ?_ | refine z0e ?_ | refine z0b ?_ | refine z0i ?_ | refine qs ?_ | refine qb ?_ | refine z0n ?_ | refine qw ?_ | refine z0j ?_ | refine z0l ?_ | refine qi ?_ | refine qg (h := ?_) | refine qx (h := ?_) | refine qy (h := ?_) | refine qa ?_ | refine qc ?_ | refine ql ?_ | refine qp ?_ | refine z0a ?_ | rfl
     | (with_reducible first | refine ok_lt ?_ ?_ | refine ok_le ?_ ?_ | refine z0h ?_ ?_ | refine z0k ?_ ?_ | refine z0m ?_ ?_ | refine qu ?_ ?_ | refine ok_if ?_ ?_) <;> intro _ <;> try (exfalso; omega)
 · unfold z6b zgu
   dsimp only
   repeat' first
     | (dsimp only [Int.toNat_natCast, List.length_nil])
     | ((with_reducible refine z1e ?_ ?_) <;> intro _ <;> try (exfalso; omega))
     | with_reducible first | refine z0f ?_ | refine z0g ?_ | refine z0d ?_ | refine z0e ?_ | refine z0b ?_ | refine z0i ?_ | refine qs ?_ | refine qb ?_ | refine z0n ?_ | refine qw ?_ | refine z0j ?_ | refine z0l ?_ | refine qi ?_ | refine qg (h := ?_) | refine qx (h := ?_) | refine qy (h := ?_) | refine qa ?_ | refine qc ?_ | refine ql ?_ | refine qp ?_ | refine z0a ?_ | rfl
     | (with_reducible first | refine ok_lt ?_ ?_ | refine ok_le ?_ ?_ | refine z0h ?_ ?_ | refine z0k ?_ ?_ | refine z0m ?_ ?_ | refine qu ?_ ?_ | refine ok_if ?_ ?_) <;> intro _ <;> try (exfalso; omega)
   exact ⟨(), by rw [z0s (by omega)]; rfl, trivial⟩
theorem z1rc (l : List T3) (v : T3) (hl : l.length ≤ 2000) : Ok (zuw l [] v) fun r => r.1.length ≤ l.length + 1 ∧ ∀ y, y ∈ r.1 → y ∈ l ∨ y = v := by
 have first : loopC z6a (l, [], 0, v) = some (.inl (l, [], v)) := by
   refine ok_is (z1y 0 (fun i _ => (l, [], (i : Int), v)) (fun _ (_ : Unit) => True) () rfl trivial (fun _ _ => ?_) fun i _ hi _ => by omega)
   unfold z6a zo1
   dsimp only
   repeat' first
     | (dsimp only [Int.toNat_natCast, List.length_nil])
     | ((with_reducible refine z1e ?_ ?_) <;> intro _ <;> try (exfalso; omega))
     | with_reducible first | refine z0f ?_ | refine z0g ?_ | refine z0d ?_ | refine z0e ?_ | refine z0b ?_ | refine z0i ?_ | refine qs ?_ | refine qb ?_ | refine z0n ?_ | refine qw ?_ | refine z0j ?_ | refine z0l ?_ | refine qi ?_ | refine qg (h := ?_) | refine qx (h := ?_) | refine qy (h := ?_) | refine qa ?_ | refine qc ?_ | refine ql ?_ | refine qp ?_ | refine z0a ?_ | rfl
     | (with_reducible first | refine ok_lt ?_ ?_ | refine ok_le ?_ ?_ | refine z0h ?_ ?_ | refine z0k ?_ ?_ | refine z0m ?_ ?_ | refine qu ?_ ?_ | refine ok_if ?_ ?_) <;> intro _ <;> try (exfalso; omega)
 have inner : ∀ (put : Bool) (i : Int) (out : List T3) (x : T3), loopC z1d (l, [], put, i, 0, v, out, x) = some (l, [], put, i, v, out, x) := fun put i out x => by
   refine ok_is (z1y 0 (fun k _ => (l, [], put, i, (k : Int), v, out, x)) (fun _ (_ : Unit) => True) () rfl trivial (fun _ _ => ?_) fun i _ hi _ => by omega)
   unfold z1d z8e
   dsimp only
   repeat' first
     | (dsimp only [Int.toNat_natCast, List.length_nil])
     | ((with_reducible refine z1e ?_ ?_) <;> intro _ <;> try (exfalso; omega))
     | with_reducible first | refine z0f ?_ | refine z0g ?_ | refine z0d ?_ | refine z0e ?_ | refine z0b ?_ | refine z0i ?_ | refine qs ?_ | refine qb ?_ | refine z0n ?_ | refine qw ?_ | refine z0j ?_ | refine z0l ?_ | refine qi ?_ | refine qg (h := ?_) | refine qx (h := ?_) | refine qy (h := ?_) | refine qa ?_ | refine qc ?_ | refine ql ?_ | refine qp ?_ | refine z0a ?_ | rfl
     | (with_reducible first | refine ok_lt ?_ ?_ | refine ok_le ?_ ?_ | refine z0h ?_ ?_ | refine z0k ?_ ?_ | refine z0m ?_ ?_ | refine qu ?_ ?_ | refine ok_if ?_ ?_) <;> intro _ <;> try (exfalso; omega)
 unfold zuw
 repeat' first
   | (dsimp only [Int.toNat_natCast, List.length_nil])
   | ((with_reducible refine ok_eq first ?_))
   | ((with_reducible refine z4f (z1os l v.1 hl) fun _ _ => ?_))
   | ((with_reducible refine z1e ?_ ?_) <;> intro _ <;> try (exfalso; omega))
   | with_reducible first | refine z0f ?_ | refine z0g ?_ | refine z0d ?_ | refine z0e ?_ | refine z0b ?_ | refine z0i ?_ | refine qs ?_ | refine qb ?_ | refine z0n ?_ | refine qw ?_ | refine z0j ?_ | refine z0l ?_ | refine qi ?_ | refine qg (h := ?_) | refine qx (h := ?_) | refine qy (h := ?_) | refine qa ?_ | refine qc ?_ | refine ql ?_ | refine qp ?_ | refine z0a ?_ | rfl
   | (with_reducible first | refine ok_lt ?_ ?_ | refine ok_le ?_ ?_ | refine z0h ?_ ?_ | refine z0k ?_ ?_ | refine z0m ?_ ?_ | refine qu ?_ ?_ | refine ok_if ?_ ?_) <;> intro _ <;> try (exfalso; omega)
 · exact ⟨Nat.zero_le _, fun y hy => by cases hy⟩
 refine z1y l.length (fun i (a : Bool × List T3) => (l, [], a.1, (i : Int), v, a.2)) (fun i a => a.2.length ≤ i + (if a.1 = true then 1 else 0) ∧ ∀ y, y ∈ a.2 → y ∈ l ∨ y = v) (false, []) rfl ⟨Nat.zero_le _, fun y hy => by cases hy⟩ (fun a ha => ?_) fun i a hi ha => ?_
 · obtain ⟨put, out⟩ := a
   obtain ⟨h1, h2⟩ := ha
   unfold z2r zbe
   dsimp only
   simp only at h1 h2
   have hb : out.length ≤ l.length + 1 := by split at h1 <;> omega
   cases put with
   | true =>
     repeat' first
       | (dsimp only [Int.toNat_natCast, List.length_nil])
       | ((with_reducible refine z1e ?_ ?_) <;> intro _ <;> try (exfalso; omega))
       | with_reducible first | refine z0f ?_ | refine z0g ?_ | refine z0d ?_ | refine z0e ?_ | refine z0b ?_ | refine z0i ?_ | refine qs ?_ | refine qb ?_ | refine z0n ?_ | refine qw ?_ | refine z0j ?_ | refine z0l ?_ | refine qi ?_ | refine qg (h := ?_) | refine qx (h := ?_) | refine qy (h := ?_) | refine qa ?_ | refine qc ?_ | refine ql ?_ | refine qp ?_ | refine z0a ?_ | rfl
       | (with_reducible first | refine ok_lt ?_ ?_ | refine ok_le ?_ ?_ | refine z0h ?_ ?_ | refine z0k ?_ ?_ | refine z0m ?_ ?_ | refine qu ?_ ?_ | refine ok_if ?_ ?_) <;> intro _ <;> try (exfalso; omega)
     exact ⟨hb, h2⟩
   | false =>
     simp only [Bool.false_eq_true, if_false] at h1
     repeat' first
       | (dsimp only [Int.toNat_natCast, List.length_nil])
       | ((with_reducible refine z1e ?_ ?_) <;> intro _ <;> try (exfalso; omega))
       | with_reducible first | refine z0f ?_ | refine z0g ?_ | refine z0d ?_ | refine z0e ?_ | refine z0b ?_ | refine z0i ?_ | refine qs ?_ | refine qb ?_ | refine z0n ?_ | refine qw ?_ | refine z0j ?_ | refine z0l ?_ | refine qi ?_ | refine qg (h := ?_) | refine qx (h := ?_) | refine qy (h := ?_) | refine qa ?_ | refine qc ?_ | refine ql ?_ | refine qp ?_ | refine z0a ?_ | rfl
       | (with_reducible first | refine ok_lt ?_ ?_ | refine ok_le ?_ ?_ | refine z0h ?_ ?_ | refine z0k ?_ ?_ | refine z0m ?_ ?_ | refine qu ?_ ?_ | refine ok_if ?_ ?_) <;> intro _ <;> try (exfalso; omega)
     refine ⟨by simp; omega, fun y hy => ?_⟩
     rcases List.mem_append.1 hy with hy | hy
     · exact h2 y hy
     · simp only [List.mem_singleton] at hy; exact .inr hy
 · obtain ⟨put, out⟩ := a
   obtain ⟨h1, h2⟩ := ha
   unfold z2r zbe
   dsimp only
   simp only at h1 h2
   have hb : out.length ≤ i + 1 := by split at h1 <;> omega
   have hpi := List.getElem_mem hi
   have add : ∀ (o : List T3) (z : T3), (∀ y, y ∈ o → y ∈ l ∨ y = v) → (z ∈ l ∨ z = v) → ∀ y, y ∈ o ++ [z] → y ∈ l ∨ y = v := fun o z ho hz y hy => by
     rcases List.mem_append.1 hy with hy | hy
     · exact ho y hy
     · simp only [List.mem_singleton] at hy; subst hy; exact hz
   repeat' first
     | (dsimp only [Int.toNat_natCast, List.length_nil])
     | ((with_reducible refine ok_eq (z15n _ _) ?_))
     | ((with_reducible refine ok_eq (inner _ _ _ _) ?_))
     | ((with_reducible refine z1e ?_ ?_) <;> intro _ <;> try (exfalso; omega))
     | with_reducible first | refine z0f ?_ | refine z0g ?_ | refine z0d ?_ | refine z0e ?_ | refine z0b ?_ | refine z0i ?_ | refine qs ?_ | refine qb ?_ | refine z0n ?_ | refine qw ?_ | refine z0j ?_ | refine z0l ?_ | refine qi ?_ | refine qg (h := ?_) | refine qx (h := ?_) | refine qy (h := ?_) | refine qa ?_ | refine qc ?_ | refine ql ?_ | refine qp ?_ | refine z0a ?_ | rfl
     | (with_reducible first | refine ok_lt ?_ ?_ | refine ok_le ?_ ?_ | refine z0h ?_ ?_ | refine z0k ?_ ?_ | refine z0m ?_ ?_ | refine qu ?_ ?_ | refine ok_if ?_ ?_) <;> intro _ <;> try (exfalso; omega)
   · rename_i e1
     subst e1
     simp only [if_true] at h1
     refine ⟨(true, _), by rw [z0s (by omega)]; rfl, ?_, add _ _ h2 (.inl hpi)⟩
     simp only [if_true, List.length_append, List.length_singleton]; omega
   · rename_i e1 _
     subst e1
     simp only [Bool.false_eq_true, if_false] at h1
     refine ⟨(true, _), by rw [z0s (by omega)]; rfl, ?_, add _ _ (add _ _ h2 (.inr rfl)) (.inl hpi)⟩
     simp only [if_true, List.length_append, List.length_singleton]; omega
   · rename_i e1 _
     subst e1
     simp only [Bool.false_eq_true, if_false] at h1
     refine ⟨(false, _), by rw [z0s (by omega)]; rfl, ?_, add _ _ h2 (.inl hpi)⟩
     simp only [Bool.false_eq_true, if_false, List.length_append, List.length_singleton]; omega
structure VerOk (l : List T1) (K : List Int) (v : T3) : Prop where
 by' : ByOk K v.2.2
 data : v.2.1.length ≤ 250
 ev : ∃ e, e ∈ l ∧ v.1 = e.1 ∧ (eqI (zex e) 3 || (eqI (zex e) 4 || eqI (zex e) 5)) = true
structure ObjOk (l : List T1) (K : List Int) (o : T4) : Prop where
 seen : ByOk K o.2.2.2.2.1
 len : o.2.2.2.2.2.length ≤ l.length
 vers : ∀ v, v ∈ o.2.2.2.2.2 → VerOk l K v
theorem z1o3 {l : List T1} {K : List Int} (E : Evs l K) (out : List T3) (n m : Int) (t2 : T1) (t3 t4 t5 : T0) (t6 : Bool) (obj : T0) (x : T3) (hx : ByOk K x.2.2) :
   Ok (loopC z1a (l, out, n, 0, l, m, t2, t3, t4, t5, t6, obj, x)) fun r => ∃ b, ByOk K b ∧ r = (l, out, n, l, m, t2, t3, t4, t5, t6, obj, (x.1, x.2.1, b)) := by
 have hl := E.len
 refine z1y l.length (fun k (b : List Int) => (l, out, n, (k : Int), l, m, t2, t3, t4, t5, t6, obj, (x.1, x.2.1, b))) (fun _ b => ByOk K b) x.2.2 rfl hx (fun b hb => ?_) fun k b hk hb => ?_
 · unfold z1a z4e
   dsimp only
   repeat' first
     | (dsimp only [Int.toNat_natCast, List.length_nil])
     | ((with_reducible refine z1e ?_ ?_) <;> intro _ <;> try (exfalso; omega))
     | with_reducible first | refine z0f ?_ | refine z0g ?_ | refine z0d ?_ | refine z0e ?_ | refine z0b ?_ | refine z0i ?_ | refine qs ?_ | refine qb ?_ | refine z0n ?_ | refine qw ?_ | refine z0j ?_ | refine z0l ?_ | refine qi ?_ | refine qg (h := ?_) | refine qx (h := ?_) | refine qy (h := ?_) | refine qa ?_ | refine qc ?_ | refine ql ?_ | refine qp ?_ | refine z0a ?_ | rfl
     | (with_reducible first | refine ok_lt ?_ ?_ | refine ok_le ?_ ?_ | refine z0h ?_ ?_ | refine z0k ?_ ?_ | refine z0m ?_ ?_ | refine qu ?_ ?_ | refine ok_if ?_ ?_) <;> intro _ <;> try (exfalso; omega)
   exact ⟨b, hb, rfl⟩
 · unfold z1a z4e
   dsimp only
   have go := (E.ev _ (List.getElem_mem hk)).base
   have hw := ByOk.with E hb (List.getElem_mem hk)
   obtain ⟨e1, e2⟩ := in_is (zpg l[k]) x.1 (by omega)
   repeat' first
     | (dsimp only [Int.toNat_natCast, List.length_nil])
     | ((with_reducible refine ok_eq (z1e7 _) ?_))
     | ((with_reducible refine ok_eq e2 ?_))
     | ((with_reducible refine ok_eq (zs5 hb.v _) ?_))
     | ((with_reducible refine z1e ?_ ?_) <;> intro _ <;> try (exfalso; omega))
     | with_reducible first | refine z0f ?_ | refine z0g ?_ | refine z0d ?_ | refine z0e ?_ | refine z0b ?_ | refine z0i ?_ | refine qs ?_ | refine qb ?_ | refine z0n ?_ | refine qw ?_ | refine z0j ?_ | refine z0l ?_ | refine qi ?_ | refine qg (h := ?_) | refine qx (h := ?_) | refine qy (h := ?_) | refine qa ?_ | refine qc ?_ | refine ql ?_ | refine qp ?_ | refine z0a ?_ | rfl
     | (with_reducible first | refine ok_lt ?_ ?_ | refine ok_le ?_ ?_ | refine z0h ?_ ?_ | refine z0k ?_ ?_ | refine z0m ?_ ?_ | refine qu ?_ ?_ | refine ok_if ?_ ?_) <;> intro _ <;> try (exfalso; omega)
   all_goals first
     | exact ⟨withV b l[k].1, by rw [z0s (by omega)]; rfl, hw⟩
     | exact ⟨b, by rw [z0s (by omega)]; rfl, hb⟩
theorem z1iw {l : List T1} {K : List Int} (E : Evs l K) (obj : T0) : Ok (zim l obj) fun r => r.length ≤ l.length ∧ (∀ x, x ∈ r → VerOk l K x) := by
 have hl := E.len
 unfold zim
 refine z0a (z1y l.length (fun i (a : List T3) => (l, a, (i : Int), obj)) (fun i a => a.length ≤ i ∧ ∀ x, x ∈ a → VerOk l K x) [] rfl ⟨Nat.zero_le _, fun x hx => by cases hx⟩ (fun a ha => ?_) fun i a hi ha => ?_)
 · unfold z2t zbw
   dsimp only
   repeat' first
     | (dsimp only [Int.toNat_natCast, List.length_nil])
     | ((with_reducible refine z1e ?_ ?_) <;> intro _ <;> try (exfalso; omega))
     | with_reducible first | refine z0f ?_ | refine z0g ?_ | refine z0d ?_ | refine z0e ?_ | refine z0b ?_ | refine z0i ?_ | refine qs ?_ | refine qb ?_ | refine z0n ?_ | refine qw ?_ | refine z0j ?_ | refine z0l ?_ | refine qi ?_ | refine qg (h := ?_) | refine qx (h := ?_) | refine qy (h := ?_) | refine qa ?_ | refine qc ?_ | refine ql ?_ | refine qp ?_ | refine z0a ?_ | rfl
     | (with_reducible first | refine ok_lt ?_ ?_ | refine ok_le ?_ ?_ | refine z0h ?_ ?_ | refine z0k ?_ ?_ | refine z0m ?_ ?_ | refine qu ?_ ?_ | refine ok_if ?_ ?_) <;> intro _ <;> try (exfalso; omega)
   exact ha
 · unfold z2t zbw
   dsimp only
   have hm := List.getElem_mem hi
   repeat' first
     | (dsimp only [Int.toNat_natCast, List.length_nil])
     | ((with_reducible refine ok_eq (z1e7 _) ?_))
     | ((with_reducible refine z4f (z1jq E.len E.ev E.chain _) ?_); rintro d hd)
     | ((with_reducible refine z4f (z1o3 E _ _ _ _ _ _ _ _ _ _ (ByOk.zero E)) ?_); rintro _ ⟨b, hb, rfl⟩)
     | ((with_reducible refine z4f (z1rc _ _ (by omega)) ?_); rintro r ⟨g1, g2⟩)
     | ((with_reducible refine z1e ?_ ?_) <;> intro _ <;> try (exfalso; omega))
     | with_reducible first | refine z0f ?_ | refine z0g ?_ | refine z0d ?_ | refine z0e ?_ | refine z0b ?_ | refine z0i ?_ | refine qs ?_ | refine qb ?_ | refine z0n ?_ | refine qw ?_ | refine z0j ?_ | refine z0l ?_ | refine qi ?_ | refine qg (h := ?_) | refine qx (h := ?_) | refine qy (h := ?_) | refine qa ?_ | refine qc ?_ | refine ql ?_ | refine qp ?_ | refine z0a ?_ | rfl
     | (with_reducible first | refine ok_lt ?_ ?_ | refine ok_le ?_ ?_ | refine z0h ?_ ?_ | refine z0k ?_ ?_ | refine z0m ?_ ?_ | refine qu ?_ ?_ | refine ok_if ?_ ?_) <;> intro _ <;> try (exfalso; omega)
   all_goals first
     | exact ⟨a, by rw [z0s (by omega)]; rfl, by omega, ha.2⟩
     | (refine ⟨_, by rw [z0s (by omega)]; rfl, ?_⟩
        refine ⟨by omega, fun x hx => ?_⟩
        rcases g2 x hx with hx | rfl
        · exact ha.2 x hx
        · exact ⟨hb, hd, _, hm, rfl, by assumption⟩)
theorem z1mf {l : List T1} {K : List Int} (E : Evs l K) (e : T1) : Ok (zmb l e) fun r => (r.1 = e.1 ∧ ObjOk l K r) := by
 have hl := E.len
 unfold zmb
 refine z4f (z1iw E e.1) ?_
 rintro r ⟨h1, h2⟩
 refine z0a (z1y l.length (fun i (o : T4) => (l, (i : Int), e, _, o)) (fun i o => o.1 = e.1 ∧ ObjOk l K o) _ rfl ⟨rfl, ByOk.zero E, h1, h2⟩ (fun a ha => ?_) fun i a hi ha => ?_)
 · unfold z3o zcr
   dsimp only
   repeat' first
     | (dsimp only [Int.toNat_natCast, List.length_nil])
     | ((with_reducible refine z1e ?_ ?_) <;> intro _ <;> try (exfalso; omega))
     | with_reducible first | refine z0f ?_ | refine z0g ?_ | refine z0d ?_ | refine z0e ?_ | refine z0b ?_ | refine z0i ?_ | refine qs ?_ | refine qb ?_ | refine z0n ?_ | refine qw ?_ | refine z0j ?_ | refine z0l ?_ | refine qi ?_ | refine qg (h := ?_) | refine qx (h := ?_) | refine qy (h := ?_) | refine qa ?_ | refine qc ?_ | refine ql ?_ | refine qp ?_ | refine z0a ?_ | rfl
     | (with_reducible first | refine ok_lt ?_ ?_ | refine ok_le ?_ ?_ | refine z0h ?_ ?_ | refine z0k ?_ ?_ | refine z0m ?_ ?_ | refine qu ?_ ?_ | refine ok_if ?_ ?_) <;> intro _ <;> try (exfalso; omega)
   exact ha
 · unfold z3o zcr
   dsimp only
   have hm := List.getElem_mem hi
   have hs : ByOk K (joinV a.2.2.2.2.1 (withV l[i].2.1 l[i].1)) := ha.2.seen.join ⟨zog (E.ev _ hm).dep _, zq0 (E.ev _ hm).dep (zew _) (E.ev _ hm).nat, z1i0 (E.ev _ hm).dep (E.dep _ hm) E.nat (E.means _ hm)⟩
   repeat' first
     | (dsimp only [Int.toNat_natCast, List.length_nil])
     | ((with_reducible refine ok_eq (z15n _ _) ?_))
     | ((with_reducible refine ok_eq (zs5 (E.ev _ hm).dep _) ?_))
     | ((with_reducible refine ok_eq (z15w ha.2.seen.v (zog (E.ev _ hm).dep _)) ?_))
     | ((with_reducible refine z1e ?_ ?_) <;> intro _ <;> try (exfalso; omega))
     | with_reducible first | refine z0f ?_ | refine z0g ?_ | refine z0d ?_ | refine z0e ?_ | refine z0b ?_ | refine z0i ?_ | refine qs ?_ | refine qb ?_ | refine z0n ?_ | refine qw ?_ | refine z0j ?_ | refine z0l ?_ | refine qi ?_ | refine qg (h := ?_) | refine qx (h := ?_) | refine qy (h := ?_) | refine qa ?_ | refine qc ?_ | refine ql ?_ | refine qp ?_ | refine z0a ?_ | rfl
     | (with_reducible first | refine ok_lt ?_ ?_ | refine ok_le ?_ ?_ | refine z0h ?_ ?_ | refine z0k ?_ ?_ | refine z0m ?_ ?_ | refine qu ?_ ?_ | refine ok_if ?_ ?_) <;> intro _ <;> try (exfalso; omega)
   all_goals first
     | (refine ⟨_, by rw [z0s (by omega)]; rfl, ?_⟩
        first | exact ⟨ha.1, ha.2.seen, ha.2.len, ha.2.vers⟩ | exact ⟨ha.1, hs, ha.2.len, ha.2.vers⟩)
end Go.Proofs.Ytfbdjicfkcklfaa