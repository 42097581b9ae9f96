import Derived.Test.YtfbdjicfkcklfaaTm21to25
import Derived.Test.YtfbdjicfkcklfaaProg
set_option maxRecDepth 100000
set_option linter.unusedVariables false
noncomputable section
namespace Go.Proofs.Ytfbdjicfkcklfaa
open Go.Tm Go.Ab
abbrev T0 := Int × Int
abbrev T1 := T0 × (List Int) × Int × T0 × T0 × (List Int) × (List T0) × (List T0) × Int × (List Int) × Int
abbrev T2 := T0 × T0 × (List Int) × T0 × (List Int)
abbrev T3 := T0 × (List Int) × (List Int)
abbrev T4 := T0 × Bool × T0 × (List Int) × (List Int) × (List T3)
abbrev T5 := (List Int) × (List T4) × (List T2) × (List Int) × (List Bool)
def c0 : U := (.st (.cons (.int .i64) (.one (.int .u32))))
def c1 : U := (.arr 8 (.int .u32))
def r2 : Rt := .one (.st (.cons .leaf (.one .leaf)))
def c3 : U := (.sl (.st (.cons (.st (.cons (.int .i64) (.one (.int .u32)))) (.cons (.arr 8 (.int .u32)) (.cons (.int .i64) (.cons (.st (.cons (.int .i64) (.one (.int .u32)))) (.cons (.st (.cons (.int .i64) (.one (.int .u32)))) (.cons .str (.cons (.sl (.st (.cons (.int .i64) (.one (.int .u32))))) (.cons (.sl (.st (.cons (.int .i64) (.one (.int .u32))))) (.cons (.int .i64) (.cons .str (.one (.int .i64))))))))))))))
def c4 : U := (.sl (.st (.cons (.int .i64) (.one (.int .u32)))))
def c5 : U := (.sl (.st (.cons (.st (.cons (.int .i64) (.one (.int .u32)))) (.cons (.st (.cons (.int .i64) (.one (.int .u32)))) (.cons .str (.cons (.st (.cons (.int .i64) (.one (.int .u32)))) (.one (.arr 8 (.int .u32)))))))))
def c6 : U := (.st (.cons (.st (.cons (.int .i64) (.one (.int .u32)))) (.cons (.st (.cons (.int .i64) (.one (.int .u32)))) (.cons .str (.cons (.st (.cons (.int .i64) (.one (.int .u32)))) (.one (.arr 8 (.int .u32))))))))
def r7 : Rt := .one (.st (.cons (.st (.cons .leaf (.one .leaf))) (.cons (.st (.cons .leaf (.one .leaf))) (.cons .leaf (.cons (.st (.cons .leaf (.one .leaf))) (.one (.arr 8 .leaf)))))))
def r8 : Rt := .one (.st (.cons (.st (.cons .leaf (.one .leaf))) (.cons (.arr 8 .leaf) (.cons .leaf (.cons (.st (.cons .leaf (.one .leaf))) (.cons (.st (.cons .leaf (.one .leaf))) (.cons .leaf (.cons .leaf (.cons .leaf (.cons .leaf (.cons .leaf (.one .leaf))))))))))))
def c9 : U := (.st (.cons (.st (.cons (.int .i64) (.one (.int .u32)))) (.cons (.arr 8 (.int .u32)) (.cons (.int .i64) (.cons (.st (.cons (.int .i64) (.one (.int .u32)))) (.cons (.st (.cons (.int .i64) (.one (.int .u32)))) (.cons .str (.cons (.sl (.st (.cons (.int .i64) (.one (.int .u32))))) (.cons (.sl (.st (.cons (.int .i64) (.one (.int .u32))))) (.cons (.int .i64) (.cons .str (.one (.int .i64)))))))))))))
def c10 : U := (.sl (.st (.cons (.st (.cons (.int .i64) (.one (.int .u32)))) (.cons .str (.one (.arr 8 (.int .u32)))))))
def c11 : U := (.st (.cons (.st (.cons (.int .i64) (.one (.int .u32)))) (.cons .str (.one (.arr 8 (.int .u32))))))
def r12 : Rt := .one (.st (.cons (.st (.cons .leaf (.one .leaf))) (.cons .leaf (.one (.arr 8 .leaf)))))
def r13 : Rt := .one (.st (.cons (.st (.cons .leaf (.one .leaf))) (.cons .leaf (.cons (.st (.cons .leaf (.one .leaf))) (.cons .leaf (.cons (.arr 8 .leaf) (.one .leaf)))))))
def c14 : U := (.st (.cons (.st (.cons (.int .i64) (.one (.int .u32)))) (.cons .bool (.cons (.st (.cons (.int .i64) (.one (.int .u32)))) (.cons .str (.cons (.arr 8 (.int .u32)) (.one (.sl (.st (.cons (.st (.cons (.int .i64) (.one (.int .u32)))) (.cons .str (.one (.arr 8 (.int .u32))))))))))))))
def r15 : Rt := .one (.st (.cons (.arr 8 .leaf) (.cons .leaf (.cons .leaf (.cons (.arr 8 .leaf) (.one (.arr 8 .leaf)))))))
def c16 : U := (.arr 8 (.int .i64))
def c17 : U := (.st (.cons (.arr 8 (.int .u32)) (.cons (.sl (.st (.cons (.st (.cons (.int .i64) (.one (.int .u32)))) (.cons .bool (.cons (.st (.cons (.int .i64) (.one (.int .u32)))) (.cons .str (.cons (.arr 8 (.int .u32)) (.one (.sl (.st (.cons (.st (.cons (.int .i64) (.one (.int .u32)))) (.cons .str (.one (.arr 8 (.int .u32))))))))))))))) (.cons (.sl (.st (.cons (.st (.cons (.int .i64) (.one (.int .u32)))) (.cons (.st (.cons (.int .i64) (.one (.int .u32)))) (.cons .str (.cons (.st (.cons (.int .i64) (.one (.int .u32)))) (.one (.arr 8 (.int .u32))))))))) (.cons (.arr 8 (.int .i64)) (.one (.arr 8 .bool)))))))
def c18 : U := (.sl (.st (.cons (.st (.cons (.int .i64) (.one (.int .u32)))) (.cons .bool (.cons (.st (.cons (.int .i64) (.one (.int .u32)))) (.cons .str (.cons (.arr 8 (.int .u32)) (.one (.sl (.st (.cons (.st (.cons (.int .i64) (.one (.int .u32)))) (.cons .str (.one (.arr 8 (.int .u32)))))))))))))))
def z1p0 : Env := ⟨[], [], []⟩
theorem z17k : EnvsOK Try.prog z1p0 := ⟨z0x _, z0u _, z0t _⟩
def zn1 : Shp := ⟨20, 0, [(2, .pt 0 (.one (.arr 8 .leaf)) []), (3, .pt 1 (.one (.arr 8 .leaf)) [])], [.var 25 (.d c1), .var 25 (.d c1)]⟩
def zbe : XS := .one (.exit 0) zn1.xe
theorem zyv : zbe.OK := XS.one_ok (z0c zn1)
def zbg : Shp := ⟨20, 0, [(1, .pt 0 r2 []), (2, .pt 1 (.one (.arr 8 .leaf)) []), (3, .pt 2 (.one (.arr 8 .leaf)) []), (4, .d (.int .i64))], [.var 43 (.d c0), .var 25 (.d c1), .var 25 (.d c1)]⟩
abbrev zi5 := Int × T0 × (List Int) × (List Int)
abbrev zpu := ((List Int) × (List Int))
def zht (i : Int) (id : T0) (t2 : List Int) (out : List Int) : Option (zi5 ⊕ zpu) :=
 bif ltI i 8 then
 bif eqI (W64 (i + 1)) id.1 then
 bif inI i 8 then
 (out[i.toNat]?).bind fun _x =>
 some (.inl (W64 (i + 1), id, t2, out.set i.toNat id.2))
 else none
 else
 some (.inl (W64 (i + 1), id, t2, out))
 else
 some (.inr (t2, out))
def z5v (s : zi5) : Option (zi5 ⊕ zpu) := zht s.1 s.2.1 s.2.2.1 s.2.2.2
theorem zzg : SoundD Try.prog (.loop (subC (bodyC Try.f56) [1, 1, 0, 1, 0, 0])) (loopD zbg.xe zbe (loopC z5v)) :=
 z0w (S := zbg.xe) (X := zbe) z17k (h := .no) (z0p [] (by kernel_rfl) trivial) (z0c zbg) zyv z5v (fun s => by kernel_rfl)
def z17x : Shp := ⟨1, 0, [(0, .d c1)], []⟩
def z1e0 : XS := .one .ret z17x.xe
theorem z1iy : z1e0.OK := XS.one_ok (z0c z17x)
def zzs (id : T0) : Option (((List Int))) :=
 (loopC z5v (0, id, List.replicate 8 (0 : Int), List.replicate 8 (0 : Int))).bind fun o =>
 some o.2
def z1en : Sig := ⟨56, [.d c0], [], 0, z1e0⟩
def z1bg (x : T0) : Option (((List Int))) := zzs x
theorem z1m7 : FnOK Try.prog z1en z1bg :=
 fn_ok z17k (h := (.two .no (.two .no (.two (.two .no (.over (loopD zbg.xe zbe (loopC z5v)))) .no)))) Try.func56 (z0p [.den (.loop (subC (bodyC Try.f56) [1, 1, 0, 1, 0, 0])) (loopD zbg.xe zbe (loopC z5v))] (by kernel_rfl) ⟨zzg, trivial⟩) (by kernel_rfl) z1iy (fun x => by kernel_rfl)
def z1ne : Env := ⟨[], [], []⟩
theorem z12x : EnvsOK Try.prog z1ne := ⟨z0x _, z0u _, z0t _⟩
def zlv : Shp := ⟨30, 0, [(4, .pt 0 (.one (.arr 8 .leaf)) []), (5, .pt 1 (.one (.arr 8 .leaf)) [])], [.var 25 (.d c1), .var 25 (.d c1)]⟩
def zac : XS := .one (.exit 0) zlv.xe
theorem zw3 : zac.OK := XS.one_ok (z0c zlv)
def zb2 : Shp := ⟨30, 0, [(2, .pt 0 (.one (.arr 8 .leaf)) []), (3, .pt 1 (.one (.arr 8 .leaf)) []), (4, .pt 2 (.one (.arr 8 .leaf)) []), (5, .pt 3 (.one (.arr 8 .leaf)) []), (6, .d (.int .i64))], [.var 25 (.d c1), .var 25 (.d c1), .var 25 (.d c1), .var 25 (.d c1)]⟩
abbrev zh5 := Int × (List Int) × (List Int) × (List Int) × (List Int)
abbrev zol := ((List Int) × (List Int))
def zgy (i : Int) (a : List Int) (b : List Int) (t4 : List Int) (out : List Int) : Option (zh5 ⊕ zol) :=
 bif ltI i 8 then
 bif inI i 8 then
 (a[i.toNat]?).bind fun x =>
 bif inI i 8 then
 (out[i.toNat]?).bind fun _x =>
 bif inI i 8 then
 (b[i.toNat]?).bind fun x2 =>
 bif inI i 8 then
 (a[i.toNat]?).bind fun x3 =>
 bif ltI x3 x2 then
 bif inI i 8 then
 (b[i.toNat]?).bind fun x4 =>
 bif inI i 8 then
 ((out.set i.toNat x)[i.toNat]?).bind fun _x2 =>
 some (.inl (W64 (i + 1), a, b, t4, (out.set i.toNat x).set i.toNat x4))
 else none
 else none
 else
 some (.inl (W64 (i + 1), a, b, t4, out.set i.toNat x))
 else none
 else none
 else none
 else none
 else
 some (.inr (t4, out))
def z5i (s : zh5) : Option (zh5 ⊕ zol) := zgy s.1 s.2.1 s.2.2.1 s.2.2.2.1 s.2.2.2.2
theorem zyc : SoundD Try.prog (.loop (subC (bodyC Try.f17) [1, 1, 0, 1, 0, 0])) (loopD zb2.xe zac (loopC z5i)) :=
 z0w (S := zb2.xe) (X := zac) z12x (h := .no) (z0p [] (by kernel_rfl) trivial) (z0c zb2) zw3 z5i (fun s => by kernel_rfl)
def z15m : Shp := ⟨1, 0, [(0, .d c1)], []⟩
def z1a6 : XS := .one .ret z15m.xe
theorem z1gw : z1a6.OK := XS.one_ok (z0c z15m)
def zj4 (a : List Int) (b : List Int) : Option (((List Int))) :=
 (loopC z5i (0, a, b, List.replicate 8 (0 : Int), List.replicate 8 (0 : Int))).bind fun o =>
 some o.2
def zld : Sig := ⟨17, [.d c1, .d c1], [], 0, z1a6⟩
def zjn (x : (List Int) × (List Int)) : Option (((List Int))) := zj4 x.1 x.2
theorem zow : FnOK Try.prog zld zjn :=
 fn_ok z12x (h := (.two .no (.two .no (.two (.two .no (.over (loopD zb2.xe zac (loopC z5i)))) .no)))) Try.func17 (z0p [.den (.loop (subC (bodyC Try.f17) [1, 1, 0, 1, 0, 0])) (loopD zb2.xe zac (loopC z5i))] (by kernel_rfl) ⟨zyc, trivial⟩) (by kernel_rfl) z1gw (fun x => by kernel_rfl)
def z1op : Env := ⟨[(entQ z1en z1bg), (entQ zld zjn)], [], []⟩
theorem z1jt : EnvsOK Try.prog z1op := ⟨z0o (z0q z1m7) (z0o (z0q zow) (z0x _)), z0u _, z0t _⟩
def z14k : Shp := ⟨1, 0, [(0, .d c1)], []⟩
def z1aw : XS := .one .ret z14k.xe
theorem z1h6 : z1aw.OK := XS.one_ok (z0c z14k)
def z9k (v : List Int) (id : T0) : Option (((List Int))) :=
 (zzs id).bind fun r =>
 (zj4 v r).bind fun r2 =>
 some r2
def z8v : Sig := ⟨33, [.d c1, .d c0], [], 0, z1aw⟩
def z7k (x : (List Int) × T0) : Option (((List Int))) := z9k x.1 x.2
theorem z9h : FnOK Try.prog z8v z7k :=
 fn_ok z1jt (h := .no) Try.func33 (z0p [] (by kernel_rfl) trivial) (by kernel_rfl) z1h6 (fun x => by kernel_rfl)
def z1la : Env := ⟨[(entQ z8v z7k)], [], []⟩
theorem z10q : EnvsOK Try.prog z1la := ⟨z0o (z0q z9h) (z0x _), z0u _, z0t _⟩
def zkq : Shp := ⟨20, 0, [(2, .pt 0 (.one (.arr 8 .leaf)) []), (3, .pt 1 (.one (.arr 8 .leaf)) [])], [.var 25 (.d c1), .var 25 (.d c1)]⟩
def z9z : XS := .one (.exit 0) zkq.xe
theorem zuw : z9z.OK := XS.one_ok (z0c zkq)
def z9y : Shp := ⟨20, 0, [(0, .d c3), (2, .pt 0 (.one (.arr 8 .leaf)) []), (3, .pt 1 (.one (.arr 8 .leaf)) []), (4, .d (.int .i64))], [.var 25 (.d c1), .var 25 (.d c1)]⟩
abbrev zfj := (List T1) × Int × (List Int) × (List Int)
abbrev zn7 := ((List Int) × (List Int))
def zfs (l : List T1) (i : Int) (t2 : List Int) (v : List Int) : Option (zfj ⊕ zn7) :=
 z0s (List.length l) (
 bif ltI i (List.length l : Nat) then
 (idxI l i).bind fun x =>
 (z9k v x.1).bind fun r =>
 some (.inl (l, W64 (i + 1), t2, r))
 else
 some (.inr (t2, v)))
def z4y (s : zfj) : Option (zfj ⊕ zn7) := zfs s.1 s.2.1 s.2.2.1 s.2.2.2
theorem zw7 : SoundD Try.prog (.loop (subC (bodyC Try.f28) [1, 1, 0, 1, 0, 0])) (loopD z9y.xe z9z (loopC z4y)) :=
 z0w (S := z9y.xe) (X := z9z) z10q (h := .no) (z0p [] (by kernel_rfl) trivial) (z0c z9y) zuw z4y (fun s => by kernel_rfl)
def z10n : Shp := ⟨1, 0, [(0, .d c1)], []⟩
def z17j : XS := .one .ret z10n.xe
theorem z1fb : z17j.OK := XS.one_ok (z0c z10n)
def znp (l : List T1) : Option (((List Int))) :=
 (loopC z4y (l, 0, List.replicate 8 (0 : Int), List.replicate 8 (0 : Int))).bind fun o =>
 some o.2
def zv7 : Sig := ⟨28, [.d c3], [], 0, z17j⟩
def zsi (x : (List T1)) : Option (((List Int))) := znp x
theorem z14d : FnOK Try.prog zv7 zsi :=
 fn_ok z10q (h := (.two .no (.two .no (.two (.two .no (.over (loopD z9y.xe z9z (loopC z4y)))) .no)))) Try.func28 (z0p [.den (.loop (subC (bodyC Try.f28) [1, 1, 0, 1, 0, 0])) (loopD z9y.xe z9z (loopC z4y))] (by kernel_rfl) ⟨zw7, trivial⟩) (by kernel_rfl) z1fb (fun x => by kernel_rfl)
def z1rs : Env := ⟨[], [], []⟩
theorem z1cd : EnvsOK Try.prog z1rs := ⟨z0x _, z0u _, z0t _⟩
def zqe : Shp := ⟨18, 0, [], []⟩
def zra : Shp := ⟨18, 0, [(4, .d .bool)], []⟩
def zdf : XS := .or (.exit 0) zqe.xe (.one .ret zra.xe)
theorem z14c : zdf.OK := XS.or_ok (z0c zqe) (XS.one_ok (z0c zra))
def zdb : Shp := ⟨18, 0, [(0, .d c4), (3, .pt 0 r2 []), (5, .d (.int .i64))], [.var 43 (.d c0)]⟩
abbrev zm7 := (List T0) × Int × T0
abbrev zum := (Unit) ⊕ (Bool)
def zgi (l : List T0) (i : Int) (x : T0) : Option (zm7 ⊕ zum) :=
 z0s (List.length l) (
 bif ltI i (List.length l : Nat) then
 (idxI l i).bind fun x2 =>
 bif eqU c0 x2 x then
 some (.inr (.inr true))
 else
 some (.inl (l, W64 (i + 1), x))
 else
 some (.inr (.inl ())))
def z6t (s : zm7) : Option (zm7 ⊕ zum) := zgi s.1 s.2.1 s.2.2
theorem z15o : SoundD Try.prog (.loop (subC (bodyC Try.f53) [1, 0, 1, 0, 0])) (loopD zdb.xe zdf (loopC z6t)) :=
 z0w (S := zdb.xe) (X := zdf) z1cd (h := .no) (z0p [] (by kernel_rfl) trivial) (z0c zdb) z14c z6t (fun s => by kernel_rfl)
def z1ag : Shp := ⟨1, 0, [(0, .d .bool)], []⟩
def z1hu : XS := .one .ret z1ag.xe
theorem z1lk : z1hu.OK := XS.one_ok (z0c z1ag)
def zha (l : List T0) (x : T0) : Option ((Bool)) :=
 (loopC z6t (l, 0, x)).bind fun o =>
 Sum.elim (fun y =>
 some false) (fun y2 =>
 some y2) o
def zqc : Sig := ⟨53, [.d c4, .d c0], [], 0, z1hu⟩
def znu (x : (List T0) × T0) : Option ((Bool)) := zha x.1 x.2
theorem ztg : FnOK Try.prog zqc znu :=
 fn_ok z1cd (h := (.two .no (.two (.two .no (.over (loopD zdb.xe zdf (loopC z6t)))) .no))) Try.func53 (z0p [.den (.loop (subC (bodyC Try.f53) [1, 0, 1, 0, 0])) (loopD zdb.xe zdf (loopC z6t))] (by kernel_rfl) ⟨z15o, trivial⟩) (by kernel_rfl) z1lk (fun x => by kernel_rfl)
def z1js : Env := ⟨[], [], []⟩
theorem z1fh : EnvsOK Try.prog z1js := ⟨z0x _, z0u _, z0t _⟩
def zxr : Shp := ⟨1, 0, [(0, .d .bool)], []⟩
def z13o : XS := .one .ret zxr.xe
theorem z1d8 : z13o.OK := XS.one_ok (z0c zxr)
def zax (a : T0) (b : T0) : Option ((Bool)) :=
 bif ltI a.2 b.2 then
 some true
 else
 bif eqI a.2 b.2 then
 some (ltI a.1 b.1)
 else
 some false
def zbh : Sig := ⟨31, [.d c0, .d c0], [], 0, z13o⟩
def za7 (x : T0 × T0) : Option ((Bool)) := zax x.1 x.2
theorem zc2 : FnOK Try.prog zbh za7 :=
 fn_ok z1fh (h := .no) Try.func31 (z0p [] (by kernel_rfl) trivial) (by kernel_rfl) z1d8 (fun x => by kernel_rfl)
def z1pb : Env := ⟨[(entQ zld zjn), (entQ zbh za7)], [], []⟩
theorem z17h : EnvsOK Try.prog z1pb := ⟨z0o (z0q zow) (z0o (z0q zc2) (z0x _)), z0u _, z0t _⟩
def zec : Shp := ⟨67, 0, [(0, .d c5), (3, .pt 0 r7 []), (5, .wn 1 c6), (6, .d .bool), (7, .d (.int .i64))], [.var 45 (.d c6), .row 45 c6]⟩
def zb9 : XS := .one .normal zec.xe
theorem zmk : zb9.OK := XS.one_ok (z0c zec)
def zdm : Shp := ⟨67, 0, [(0, .d c5), (3, .pt 0 r7 []), (5, .wn 1 c6), (6, .d .bool), (7, .d (.int .i64)), (48, .d .bool)], [.var 45 (.d c6), .row 45 c6]⟩
def za6 : XS := .one .normal zdm.xe
theorem zks : za6.OK := XS.one_ok (z0c zdm)
def zko : Shp := ⟨67, 0, [(3, .pt 0 r7 []), (5, .wn 1 c6), (6, .d .bool)], [.var 45 (.d c6), .row 45 c6]⟩
def za1 : XS := .one (.exit 0) zko.xe
theorem zus : za1.OK := XS.one_ok (z0c zko)
def z9r : Shp := ⟨67, 0, [(0, .d c5), (3, .pt 0 r7 []), (5, .wn 1 c6), (6, .d .bool), (7, .d (.int .i64))], [.var 45 (.d c6), .row 45 c6]⟩
abbrev zfl := (List T2) × Bool × Int × T2 × (List T2)
abbrev zn5 := (Bool × T2 × (List T2))
def zce (l : List T2) (put : Bool) (i : Int) (x : T2) (out : List T2) : Option (zfl ⊕ zn5) :=
 z0s (List.length l) (
 bif ltI i (List.length l : Nat) then
 (idxI l i).bind fun x2 =>
 bif eqU c0 x2.1 x.1 then
 (idxI l i).bind fun x3 =>
 (zj4 x3.2.2.2.2 x.2.2.2.2).bind fun r =>
 bif Nat.beq (List.length out) (List.length out) then
 appG (List.length out) (List.length ([(x3.1, x3.2.1, x3.2.2.1, x3.2.2.2.1, r)] : List T2)) 96 fun _ =>
 bif Nat.beq (List.length (out ++ ([(x3.1, x3.2.1, x3.2.2.1, x3.2.2.2.1, r)] : List T2))) (List.length (out ++ ([(x3.1, x3.2.1, x3.2.2.1, x3.2.2.2.1, r)] : List T2))) then
 some (.inl (l, true, W64 (i + 1), x, out ++ ([(x3.1, x3.2.1, x3.2.2.1, x3.2.2.2.1, r)] : List T2)))
 else none
 else none
 else
 (show Option (((List T2) × Bool × Int × T2 × (List T2))) from
 (show Option (((List T2) × Bool × Int × Bool × T2 × (List T2))) from
 bif !put then
 (idxI l i).bind fun x4 =>
 (zax x.1 x4.1).bind fun r2 =>
 bif Nat.beq (List.length out) (List.length out) then
 some (l, put, i, r2, x, out)
 else none
 else
 bif Nat.beq (List.length out) (List.length out) then
 some (l, put, i, false, x, out)
 else none).bind fun j =>
 bif j.2.2.2.1 then
 bif Nat.beq (List.length j.2.2.2.2.2) (List.length j.2.2.2.2.2) then
 appG (List.length j.2.2.2.2.2) (List.length ([j.2.2.2.2.1] : List T2)) 96 fun _ =>
 bif Nat.beq (List.length (j.2.2.2.2.2 ++ ([j.2.2.2.2.1] : List T2))) (List.length (j.2.2.2.2.2 ++ ([j.2.2.2.2.1] : List T2))) then
 some (j.1, true, j.2.2.1, j.2.2.2.2.1, j.2.2.2.2.2 ++ ([j.2.2.2.2.1] : List T2))
 else none
 else none
 else
 bif Nat.beq (List.length j.2.2.2.2.2) (List.length j.2.2.2.2.2) then
 some (j.1, j.2.1, j.2.2.1, j.2.2.2.2.1, j.2.2.2.2.2)
 else none).bind fun j2 =>
 (idxI j2.1 j2.2.2.1).bind fun x5 =>
 bif Nat.beq (List.length j2.2.2.2.2) (List.length j2.2.2.2.2) then
 appG (List.length j2.2.2.2.2) (List.length ([x5] : List T2)) 96 fun _ =>
 bif Nat.beq (List.length (j2.2.2.2.2 ++ ([x5] : List T2))) (List.length (j2.2.2.2.2 ++ ([x5] : List T2))) then
 some (.inl (j2.1, j2.2.1, W64 (j2.2.2.1 + 1), j2.2.2.2.1, j2.2.2.2.2 ++ ([x5] : List T2)))
 else none
 else none
 else
 bif Nat.beq (List.length out) (List.length out) then
 some (.inr (put, x, out))
 else none)
def z3o (s : zfl) : Option (zfl ⊕ zn5) := zce s.1 s.2.1 s.2.2.1 s.2.2.2.1 s.2.2.2.2
theorem zwm : SoundD Try.prog (.loop (subC (bodyC Try.f54) [1, 1, 1, 0, 1, 0, 0])) (loopD z9r.xe za1 (loopC z3o)) :=
 z0w (S := z9r.xe) (X := za1) z17h (h := (.two .no (.two (.two .no (.join (fun _ => zb9) (.join (fun _ => za6) .no .no) .no)) .no))) (z0p [.xs (fun _ => zb9), .xs (fun _ => za6)] (by kernel_rfl) ⟨(z2j zmk), (z2j zks), trivial⟩) (z0c z9r) zus z3o (fun s => by kernel_rfl)
def z18v : Shp := ⟨1, 0, [(0, .d c5)], []⟩
def z1dp : XS := .one .ret z18v.xe
theorem z1jm : z1dp.OK := XS.one_ok (z0c z18v)
def zg1 (l : List T2) (x : T2) : Option (((List T2))) :=
 bif Nat.beq 0 (List.length ([] : List T2)) then
 (loopC z3o (l, false, 0, x, ([] : List T2))).bind fun o =>
 bif !o.1 then
 bif Nat.beq (List.length o.2.2) (List.length o.2.2) then
 appG (List.length o.2.2) (List.length ([o.2.1] : List T2)) 96 fun _ =>
 winK (o.2.2 ++ ([o.2.1] : List T2)) 0 (List.length (o.2.2 ++ ([o.2.1] : List T2))) fun w =>
 some w
 else none
 else
 winK o.2.2 0 (List.length o.2.2) fun w2 =>
 some w2
 else none
def z11m : Sig := ⟨54, [.d c5, .d c6], [], 0, z1dp⟩
def zy6 (x : (List T2) × T2) : Option (((List T2))) := zg1 x.1 x.2
theorem z1ac : FnOK Try.prog z11m zy6 :=
 fn_ok z17h (h := (.two .no (.two .no (.two .no (.two (.two .no (.over (loopD z9r.xe za1 (loopC z3o)))) .no))))) Try.func54 (z0p [.den (.loop (subC (bodyC Try.f54) [1, 1, 1, 0, 1, 0, 0])) (loopD z9r.xe za1 (loopC z3o))] (by kernel_rfl) ⟨zwm, trivial⟩) (by kernel_rfl) z1jm (fun x => by kernel_rfl)
def z1hv : Env := ⟨[(entQ zqc znu), (entQ z8v z7k), (entQ z11m zy6)], [], []⟩
theorem znh : EnvsOK Try.prog z1hv := ⟨z0o (z0q ztg) (z0o (z0q z9h) (z0o (z0q z1ac) (z0x _))), z0u _, z0t _⟩
def zdi : Shp := ⟨101, 0, [(0, .d c3), (3, .d c5), (4, .d (.int .i64)), (5, .pt 0 r8 [])], [.var 67 (.d c9)]⟩
def zdn : Shp := ⟨101, 0, [(0, .d c3), (3, .d c5), (4, .d (.int .i64)), (23, .pt 0 r8 [.fld 2]), (24, .d (.int .i64)), (25, .d .bool), (28, .pt 0 r8 [.fld 2]), (29, .d (.int .i64)), (30, .d .bool)], [.var 67 (.d c9)]⟩
def za5 : XS := .or .normal zdi.xe (.one (.exit 1) zdn.xe)
theorem zkt : za5.OK := XS.or_ok (z0c zdi) (XS.one_ok (z0c zdn))
def zbo : Shp := ⟨101, 0, [(0, .d c3), (3, .d c5), (4, .d (.int .i64)), (6, .pt 0 r7 [])], [.var 45 (.d c6)]⟩
def z7z : XS := .one .normal zbo.xe
theorem zie : z7z.OK := XS.one_ok (z0c zbo)
def z6g : Shp := ⟨101, 0, [(0, .d c3), (3, .d c5), (4, .d (.int .i64)), (6, .pt 0 r7 []), (7, .d (.int .i64)), (8, .d .bool)], [.var 45 (.d c6)]⟩
def z3j : XS := .one .normal z6g.xe
theorem zch : z3j.OK := XS.one_ok (z0c z6g)
def z5p : Shp := ⟨101, 0, [(0, .d c3), (3, .d c5), (4, .d (.int .i64)), (6, .pt 0 r7 []), (7, .d (.int .i64)), (87, .d .bool)], [.var 45 (.d c6)]⟩
def z3a : XS := .one .normal z5p.xe
theorem zc8 : z3a.OK := XS.one_ok (z0c z5p)
def z8n : Shp := ⟨101, 0, [(0, .d c3), (3, .d c5), (4, .d (.int .i64)), (6, .pt 0 r7 [])], [.var 45 (.d c6)]⟩
def z2a : XS := .one (.exit 2) z8n.xe
theorem zek : z2a.OK := XS.one_ok (z0c z8n)
def z1y : Shp := ⟨101, 0, [(0, .d c3), (3, .d c5), (4, .d (.int .i64)), (6, .pt 0 r7 []), (7, .d (.int .i64))], [.var 45 (.d c6)]⟩
abbrev z4p := (List T1) × (List T2) × Int × Int × T2
abbrev z9i := ((List T1) × (List T2) × Int × T2)
def z1z (l : List T1) (out : List T2) (i : Int) (k : Int) (x : T2) : Option (z4p ⊕ z9i) :=
 z0s (List.length l) (
 bif ltI k (List.length l : Nat) then
 (show Option (((List T1) × (List T2) × Int × Int × Bool × T2)) from
 (idxI l k).bind fun x2 =>
 bif eqI x2.2.2.1 6 then
 some (l, out, i, k, true, x)
 else
 (idxI l k).bind fun x3 =>
 some (l, out, i, k, eqI x3.2.2.1 7, x)).bind fun j =>
 (show Option (((List T1) × (List T2) × Int × Int × Bool × T2)) from
 bif j.2.2.2.2.1 then
 (idxI j.1 j.2.2.2.1).bind fun x4 =>
 bif eqU c0 x4.2.2.2.1 j.2.2.2.2.2.2.2.2.1 then
 (idxI j.1 j.2.2.2.1).bind fun x5 =>
 (zha x5.2.2.2.2.2.2.1 j.2.2.2.2.2.1).bind fun r =>
 some (j.1, j.2.1, j.2.2.1, j.2.2.2.1, r, j.2.2.2.2.2)
 else
 some (j.1, j.2.1, j.2.2.1, j.2.2.2.1, false, j.2.2.2.2.2)
 else
 some (j.1, j.2.1, j.2.2.1, j.2.2.2.1, false, j.2.2.2.2.2)).bind fun j2 =>
 bif j2.2.2.2.2.1 then
 (idxI j2.1 j2.2.2.2.1).bind fun x6 =>
 (z9k j2.2.2.2.2.2.2.2.2.2 x6.1).bind fun r2 =>
 some (.inl (j2.1, j2.2.1, j2.2.2.1, W64 (j2.2.2.2.1 + 1), (j2.2.2.2.2.2.1, j2.2.2.2.2.2.2.1, j2.2.2.2.2.2.2.2.1, j2.2.2.2.2.2.2.2.2.1, r2)))
 else
 some (.inl (j2.1, j2.2.1, j2.2.2.1, W64 (j2.2.2.2.1 + 1), j2.2.2.2.2.2))
 else
 some (.inr (l, out, i, x)))
def z0v (s : z4p) : Option (z4p ⊕ z9i) := z1z s.1 s.2.1 s.2.2.1 s.2.2.2.1 s.2.2.2.2
theorem zex : SoundD Try.prog (.loop (subC (bodyC Try.f29) [1, 1, 0, 1, 0, 0, 1, 0, 0, 1, 1, 1, 1, 0, 1, 0, 0])) (loopD z1y.xe z2a (loopC z0v)) :=
 z0w (S := z1y.xe) (X := z2a) znh (h := (.two .no (.two (.join (fun _ => z3j) .no (.join (fun _ => z3a) .no .no)) .no))) (z0p [.xs (fun _ => z3j), .xs (fun _ => z3a)] (by kernel_rfl) ⟨(z2j zch), (z2j zc8), trivial⟩) (z0c z1y) zek z0v (fun s => by kernel_rfl)
def zik : Shp := ⟨101, 0, [(3, .d c5)], []⟩
def z8d : XS := .one (.exit 0) zik.xe
theorem zt3 : z8d.OK := XS.one_ok (z0c zik)
def z8j : Shp := ⟨101, 0, [(0, .d c3), (3, .d c5), (4, .d (.int .i64))], []⟩
abbrev zeh := (List T1) × (List T2) × Int
abbrev zkj := ((List T2))
def z8h (l : List T1) (out : List T2) (i : Int) : Option (zeh ⊕ zkj) :=
 z0s (List.length l) (
 bif ltI i (List.length l : Nat) then
 (idxI l i).bind fun x =>
 (show Option (((List T1) × (List T2) × Int × T1) ⊕ ((List T1) × (List T2) × Int × Int × Bool × Int × Bool × T1)) from
 bif neI x.2.2.1 1 then
 bif neI x.2.2.1 2 then
 bif neI x.2.2.1 7 then
 some (.inr (l, out, i, x.2.2.1, neI x.2.2.1 2, x.2.2.1, neI x.2.2.1 7, x))
 else
 some (.inl (l, out, i, x))
 else
 some (.inl (l, out, i, x))
 else
 some (.inl (l, out, i, x))).bind fun j =>
 Sum.elim (fun y =>
 (show Option (((List T1) × (List T2) × Int × T2)) from
 bif eqI y.2.2.2.2.2.1 7 then
 some (y.1, y.2.1, y.2.2.1, (y.2.2.2.1, y.2.2.2.2.2.2.2.1, y.2.2.2.2.2.2.2.2.1, y.2.2.2.2.2.2.1, List.replicate 8 (0 : Int)))
 else
 some (y.1, y.2.1, y.2.2.1, (y.2.2.2.1, y.2.2.2.2.2.2.2.1, y.2.2.2.2.2.2.2.2.1, y.2.2.2.1, List.replicate 8 (0 : Int)))).bind fun j2 =>
 (loopC z0v (j2.1, j2.2.1, j2.2.2.1, 0, j2.2.2.2)).bind fun o =>
 (zg1 o.2.1 o.2.2.2).bind fun r =>
 some (.inl (o.1, r, W64 (o.2.2.1 + 1)))) (fun y2 =>
 some (.inl (y2.1, y2.2.1, W64 (y2.2.2.1 + 1)))) j
 else
 some (.inr out))
def z2s (s : zeh) : Option (zeh ⊕ zkj) := z8h s.1 s.2.1 s.2.2
theorem zu4 : SoundD Try.prog (.loop (subC (bodyC Try.f29) [1, 1, 0, 1, 0, 0])) (loopD z8j.xe z8d (loopC z2s)) :=
 z0w (S := z8j.xe) (X := z8d) znh (h := (.two .no (.two (.two .no (.join (fun _ => za5) .no (.two .no (.join (fun _ => z7z) .no (.two (.two .no (.over (loopD z1y.xe z2a (loopC z0v)))) .no))))) .no))) (z0p [.xs (fun _ => za5), .xs (fun _ => z7z), .den (.loop (subC (bodyC Try.f29) [1, 1, 0, 1, 0, 0, 1, 0, 0, 1, 1, 1, 1, 0, 1, 0, 0])) (loopD z1y.xe z2a (loopC z0v))] (by kernel_rfl) ⟨(z2j zkt), (z2j zie), zex, trivial⟩) (z0c z8j) zt3 z2s (fun s => by kernel_rfl)
def zv9 : Shp := ⟨1, 0, [(0, .d c5)], []⟩
def z11c : XS := .one .ret zv9.xe
theorem z1ak : z11c.OK := XS.one_ok (z0c zv9)
def ze2 (l : List T1) : Option (((List T2))) :=
 (loopC z2s (l, [], 0)).bind fun o =>
 some o
def z10o : Sig := ⟨29, [.d c3], [], 0, z11c⟩
def zyf (x : (List T1)) : Option (((List T2))) := ze2 x
theorem z1g4 : FnOK Try.prog z10o zyf :=
 fn_ok znh (h := (.two .no (.two .no (.two (.two .no (.over (loopD z8j.xe z8d (loopC z2s)))) .no)))) Try.func29 (z0p [.den (.loop (subC (bodyC Try.f29) [1, 1, 0, 1, 0, 0])) (loopD z8j.xe z8d (loopC z2s))] (by kernel_rfl) ⟨zu4, trivial⟩) (by kernel_rfl) z1ak (fun x => by kernel_rfl)
def z1j1 : Env := ⟨[], [], []⟩
theorem z1fm : EnvsOK Try.prog z1j1 := ⟨z0x _, z0u _, z0t _⟩
def zxx : Shp := ⟨1, 0, [(0, .d .bool)], []⟩
def z13x : XS := .one .ret zxx.xe
theorem z1d6 : z13x.OK := XS.one_ok (z0c zxx)
def zf3 (t0 : T1) : Option ((Bool)) :=
 bif eqI t0.2.2.1 3 then
 some true
 else
 bif eqI t0.2.2.1 4 then
 some true
 else
 some (eqI t0.2.2.1 5)
def zsz : Sig := ⟨77, [.d c9], [], 0, z13x⟩
def zqi (x : T1) : Option ((Bool)) := zf3 x
theorem z10w : FnOK Try.prog zsz zqi :=
 fn_ok z1fm (h := .no) Try.func77 (z0p [] (by kernel_rfl) trivial) (by kernel_rfl) z1d6 (fun x => by kernel_rfl)
def z1n4 : Env := ⟨[], [], []⟩
theorem z13p : EnvsOK Try.prog z1n4 := ⟨z0x _, z0u _, z0t _⟩
def zok : Shp := ⟨25, 0, [(4, .pt 0 r8 [])], [.var 67 (.d c9)]⟩
def zo9 : Shp := ⟨25, 0, [(4, .pt 0 r8 []), (5, .d .bool)], [.var 67 (.d c9)]⟩
def zc0 : XS := .or (.exit 0) zok.xe (.one .ret zo9.xe)
theorem zzf : zc0.OK := XS.or_ok (z0c zok) (XS.one_ok (z0c zo9))
def zbw : Shp := ⟨25, 0, [(0, .d c3), (3, .pt 0 r2 []), (4, .pt 1 r8 []), (6, .d (.int .i64))], [.var 43 (.d c0), .var 67 (.d c9)]⟩
abbrev ziw := (List T1) × Int × T0 × T1
abbrev zr2 := (T1) ⊕ (Bool × T1)
def zja (l : List T1) (i : Int) (x : T0) (t4 : T1) : Option (ziw ⊕ zr2) :=
 z0s (List.length l) (
 bif ltI i (List.length l : Nat) then
 (idxI l i).bind fun x2 =>
 bif eqU c0 x2.1 x then
 (idxI l i).bind fun x3 =>
 some (.inr (.inr (true, x3)))
 else
 some (.inl (l, W64 (i + 1), x, t4))
 else
 some (.inr (.inl t4)))
def z7b (s : ziw) : Option (ziw ⊕ zr2) := zja s.1 s.2.1 s.2.2.1 s.2.2.2
theorem z12j : SoundD Try.prog (.loop (subC (bodyC Try.f91) [1, 0, 1, 0, 0])) (loopD zbw.xe zc0 (loopC z7b)) :=
 z0w (S := zbw.xe) (X := zc0) z13p (h := .no) (z0p [] (by kernel_rfl) trivial) (z0c zbw) zzf z7b (fun s => by kernel_rfl)
def z12n : Shp := ⟨1, 0, [(0, .tu [.d c9, .d .bool])], []⟩
def z1bd : XS := .one .ret z12n.xe
theorem z1i5 : z1bd.OK := XS.one_ok (z0c z12n)
def zwv (l : List T1) (x : T0) : Option ((T1 × Bool)) :=
 (loopC z7b (l, 0, x, ((0, 0), List.replicate 8 (0 : Int), 0, (0, 0), (0, 0), [], [], [], 0, [], 0))).bind fun o =>
 Sum.elim (fun y =>
 some (((0, 0), List.replicate 8 (0 : Int), 0, (0, 0), (0, 0), [], [], [], 0, [], 0), false)) (fun y2 =>
 some (y2.2, y2.1)) o
def z1ax : Sig := ⟨91, [.d c3, .d c0], [], 0, z1bd⟩
def z17m (x : (List T1) × T0) : Option ((T1 × Bool)) := zwv x.1 x.2
theorem z1lu : FnOK Try.prog z1ax z17m :=
 fn_ok z13p (h := (.two .no (.two (.two .no (.over (loopD zbw.xe zc0 (loopC z7b)))) .no))) Try.func91 (z0p [.den (.loop (subC (bodyC Try.f91) [1, 0, 1, 0, 0])) (loopD zbw.xe zc0 (loopC z7b))] (by kernel_rfl) ⟨z12j, trivial⟩) (by kernel_rfl) z1i5 (fun x => by kernel_rfl)
def z1lf : Env := ⟨[], [], []⟩
theorem z11l : EnvsOK Try.prog z1lf := ⟨z0x _, z0u _, z0t _⟩
def zkm : Shp := ⟨13, 0, [(3, .d .str)], []⟩
def za0 : XS := .one (.exit 0) zkm.xe
theorem zv0 : za0.OK := XS.one_ok (z0c zkm)
def z9s : Shp := ⟨13, 0, [(0, .d (.int .i64)), (3, .d .str), (4, .d (.int .i64))], []⟩
abbrev zfp := Int × (List Int) × Int
abbrev zmw := ((List Int))
def zfr (n : Int) (t3 : List Int) (i : Int) : Option (zfp ⊕ zmw) :=
 bif ltI i n then
 catG t3 ([0] : List Int) fun _ =>
 some (.inl (n, t3 ++ ([0] : List Int), W64 (i + 1)))
 else
 some (.inr t3)
def z4v (s : zfp) : Option (zfp ⊕ zmw) := zfr s.1 s.2.1 s.2.2
theorem zws : SoundD Try.prog (.loop (subC (bodyC Try.f95) [1, 1, 0, 1, 0, 0])) (loopD z9s.xe za0 (loopC z4v)) :=
 z0w (S := z9s.xe) (X := za0) z11l (h := .no) (z0p [] (by kernel_rfl) trivial) (z0c z9s) zv0 z4v (fun s => by kernel_rfl)
def z10p : Shp := ⟨1, 0, [(0, .d .str)], []⟩
def z17o : XS := .one .ret z10p.xe
theorem z1ex : z17o.OK := XS.one_ok (z0c z10p)
def zoi (n : Int) : Option (((List Int))) :=
 (loopC z4v (n, ([] : List Int), 0)).bind fun o =>
 some o
def zuu : Sig := ⟨95, [.d (.int .i64)], [], 0, z17o⟩
def zt9 (x : Int) : Option (((List Int))) := zoi x
theorem z14l : FnOK Try.prog zuu zt9 :=
 fn_ok z11l (h := (.two .no (.two .no (.two (.two .no (.over (loopD z9s.xe za0 (loopC z4v)))) .no)))) Try.func95 (z0p [.den (.loop (subC (bodyC Try.f95) [1, 1, 0, 1, 0, 0])) (loopD z9s.xe za0 (loopC z4v))] (by kernel_rfl) ⟨zws, trivial⟩) (by kernel_rfl) z1ex (fun x => by kernel_rfl)
def z1pm : Env := ⟨[(entQ zuu zt9)], [], []⟩
theorem z1m1 : EnvsOK Try.prog z1pm := ⟨z0o (z0q z14l) (z0x _), z0u _, z0t _⟩
def z17g : Shp := ⟨1, 0, [(0, .tu [.d .str, .d (.int .i64)])], []⟩
def z1em : XS := .one .ret z17g.xe
theorem z1iz : z1em.OK := XS.one_ok (z0c z17g)
def zzp (data : List Int) (n : Int) : Option (((List Int) × Int)) :=
 bif ltI n 0 then
 some (([] : List Int), 4)
 else
 bif ltI 200 n then
 some (([] : List Int), 4)
 else
 z0s (List.length data) (
 (zoi (W64 (n - (List.length data : Nat)))).bind fun r =>
 catG data r fun _ =>
 bif subOk 0 n (List.length (data ++ r)) then
 some (subL (data ++ r) 0 n, 0)
 else none)
def z1e8 : Sig := ⟨92, [.d .str, .d (.int .i64)], [], 0, z1em⟩
def z1al (x : (List Int) × Int) : Option (((List Int) × Int)) := zzp x.1 x.2
theorem z1om : FnOK Try.prog z1e8 z1al :=
 fn_ok z1m1 (h := .no) Try.func92 (z0p [] (by kernel_rfl) trivial) (by kernel_rfl) z1iz (fun x => by kernel_rfl)
def z1lt : Env := ⟨[(entQ zuu zt9)], [], []⟩
theorem z1h1 : EnvsOK Try.prog z1lt := ⟨z0o (z0q z14l) (z0x _), z0u _, z0t _⟩
def z10t : Shp := ⟨1, 0, [(0, .tu [.d .str, .d (.int .i64)])], []⟩
def z17y : XS := .one .ret z10t.xe
theorem z1ft : z17y.OK := XS.one_ok (z0c z10t)
def zti (data : List Int) (off : Int) (t2 : List Int) : Option (((List Int) × Int)) :=
 bif ltI off 0 then
 some (([] : List Int), 4)
 else
 bif ltI 200 off then
 some (([] : List Int), 4)
 else
 z0s (List.length data) (
 bif ltI 200 (List.length data : Nat) then
 some (([] : List Int), 4)
 else
 z0s (List.length t2) (
 bif ltI 200 (W64 (off + (List.length t2 : Nat))) then
 some (([] : List Int), 4)
 else
 z0s (List.length t2) (
 z0s (List.length data) (
 (zoi (W64 ((W64 (off + (List.length t2 : Nat))) - (List.length data : Nat)))).bind fun r =>
 catG data r fun _ =>
 bif subOk 0 off (List.length (data ++ r)) then
 catG (subL (data ++ r) 0 off) t2 fun _ =>
 z0s (List.length t2) (
 bif subOk (W64 (off + (List.length t2 : Nat))) (List.length (data ++ r) : Nat) (List.length (data ++ r)) then
 catG ((subL (data ++ r) 0 off) ++ t2) (subL (data ++ r) (W64 (off + (List.length t2 : Nat))) (List.length (data ++ r) : Nat)) fun _ =>
 some ((((subL (data ++ r) 0 off) ++ t2) ++ (subL (data ++ r) (W64 (off + (List.length t2 : Nat))) (List.length (data ++ r) : Nat)), 0))
 else none)
 else none))))
def z17e : Sig := ⟨93, [.d .str, .d (.int .i64), .d .str], [], 0, z17y⟩
def z15b (x : (List Int) × Int × (List Int)) : Option (((List Int) × Int)) := zti x.1 x.2.1 x.2.2
theorem z1j6 : FnOK Try.prog z17e z15b :=
 fn_ok z1h1 (h := .no) Try.func93 (z0p [] (by kernel_rfl) trivial) (by kernel_rfl) z1ft (fun x => by kernel_rfl)
def z10s : Shp := ⟨1, 0, [(0, .d .str)], []⟩
def z17w : XS := .one .ret z10s.xe
theorem zy9 : z17w.OK := XS.one_ok (z0c z10s)
def zjv : Sig := ⟨78, [.d c3, .d c0], [], 0, z17w⟩
def z1le (self : (List T1) × T0 → Option (((List Int)))) : Env := ⟨[(entQ z1ax z17m), (entQ zjv self), (entQ z1e8 z1al), (entQ z17e z15b)], [], []⟩
theorem z1hd {self : (List T1) × T0 → Option (((List Int)))} (hself : FnOK Try.prog zjv self) : EnvsOK Try.prog (z1le self) := ⟨z0o (z0q z1lu) (z0o (z0q hself) (z0o (z0q z1om) (z0o (z0q z1j6) (z0x _)))), z0u _, z0t _⟩
def zkv : Shp := ⟨56, 0, [(5, .pt 0 r8 []), (7, .d .str)], [.var 67 (.d c9)]⟩
def zhi : XS := .one .normal zkv.xe
theorem zwf : zhi.OK := XS.one_ok (z0c zkv)
def zou (self : (List T1) × T0 → Option (((List Int)))) (l : List T1) (x : T0) : Option (((List Int))) :=
 (zwv l x).bind fun r =>
 bif !r.2 then
 some ([] : List Int)
 else
 bif eqI r.1.2.2.1 5 then
 some r.1.2.2.2.2.2.2.2.2.2.1
 else
 (show Option (((List Int) × T1)) from
 z0s (List.length r.1.2.2.2.2.2.2.2.1) (
 bif ltI 0 (List.length r.1.2.2.2.2.2.2.2.1 : Nat) then
 (idxI r.1.2.2.2.2.2.2.2.1 0).bind fun x2 =>
 (self (l, x2)).bind fun r2 =>
 some (r2, r.1)
 else
 some (([] : List Int), r.1))).bind fun j =>
 bif eqI j.2.2.2.1 4 then
 (zzp j.1 j.2.2.2.2.2.2.2.2.2.1).bind fun r3 =>
 some r3.1
 else
 (zti j.1 j.2.2.2.2.2.2.2.2.2.1 j.2.2.2.2.2.2.2.2.2.2.1).bind fun r4 =>
 some r4.1
def zk2 (self : (List T1) × T0 → Option (((List Int)))) (x : (List T1) × T0) : Option (((List Int))) := zou self x.1 x.2
def zmh : ((List T1) × T0) → Option (((List Int))) := recC zk2
def z11v (l : List T1) (x : T0) : Option (((List Int))) := zmh (l, x)
theorem z12q : FnOK Try.prog zjv zmh :=
 z1yd (by kernel_rfl) zy9 (fun self hself => fn_ok (z1hd hself) (h := (.two .no (.two .no (.two .no (.two .no (.two .no (.join (fun _ => zhi) .no .no))))))) Try.func78 (z0p [.xs (fun _ => zhi)] (by kernel_rfl) ⟨(z2j zwf), trivial⟩) (by kernel_rfl) zy9 (fun x => by kernel_rfl))
def z1o7 : Env := ⟨[], [], []⟩
theorem z13k : EnvsOK Try.prog z1o7 := ⟨z0x _, z0u _, z0t _⟩
def z10e : Shp := ⟨33, 0, [(0, .d c10), (3, .pt 0 r2 [])], [.var 43 (.d c0)]⟩
def z10h : Shp := ⟨33, 0, [(4, .d .str), (5, .d (.int .i64))], []⟩
def zup : XS := .or .normal z10e.xe (.one .ret z10h.xe)
theorem z1ew : zup.OK := XS.or_ok (z0c z10e) (XS.one_ok (z0c z10h))
def zl8 : Shp := ⟨33, 0, [], []⟩
def zlo : Shp := ⟨33, 0, [(4, .d .str), (5, .d (.int .i64))], []⟩
def zai : XS := .or (.exit 0) zl8.xe (.one .ret zlo.xe)
theorem zw2 : zai.OK := XS.or_ok (z0c zl8) (XS.one_ok (z0c zlo))
def zb1 : Shp := ⟨33, 0, [(0, .d c10), (3, .pt 0 r2 []), (6, .d (.int .i64))], [.var 43 (.d c0)]⟩
abbrev zhg := (List T3) × Int × T0
abbrev znt := (Unit) ⊕ ((List Int) × Int)
def zgt (l : List T3) (i : Int) (id : T0) : Option (zhg ⊕ znt) :=
 z0s (List.length l) (
 bif ltI i (List.length l : Nat) then
 (idxI l i).bind fun x =>
 bif eqU c0 x.1 id then
 (idxI l i).bind fun x2 =>
 some (.inr (.inr (x2.2.1, 0)))
 else
 some (.inl (l, W64 (i + 1), id))
 else
 some (.inr (.inl ())))
def z4e (s : zhg) : Option (zhg ⊕ znt) := zgt s.1 s.2.1 s.2.2
theorem zz2 : SoundD Try.prog (.loop (subC (bodyC Try.f60) [1, 1, 0, 1, 0, 0])) (loopD zb1.xe zai (loopC z4e)) :=
 z0w (S := zb1.xe) (X := zai) z13k (h := .no) (z0p [] (by kernel_rfl) trivial) (z0c zb1) zw2 z4e (fun s => by kernel_rfl)
def z15h : Shp := ⟨1, 0, [(0, .tu [.d .str, .d (.int .i64)])], []⟩
def z1c9 : XS := .one .ret z15h.xe
theorem z1if : z1c9.OK := XS.one_ok (z0c z15h)
def zql (l : List T3) (id : T0) : Option (((List Int) × Int)) :=
 (show Option (((List T3) × T0) ⊕ ((List Int) × Int)) from
 bif eqI id.1 0 then
 bif eqI id.2 0 then
 some (.inr (([] : List Int), 0))
 else
 some (.inl (l, id))
 else
 some (.inl (l, id))).bind fun j =>
 Sum.elim (fun y =>
 (loopC z4e (y.1, 0, y.2)).bind fun o =>
 Sum.elim (fun y3 =>
 some (([] : List Int), 2)) (fun y4 =>
 some (y4.1, y4.2)) o) (fun y2 =>
 some (y2.1, y2.2)) j
def zxs : Sig := ⟨60, [.d c10, .d c0], [], 0, z1c9⟩
def zv2 (x : (List T3) × T0) : Option (((List Int) × Int)) := zql x.1 x.2
theorem z18j : FnOK Try.prog zxs zv2 :=
 fn_ok z13k (h := (.two .no (.join (fun _ => zup) .no (.two (.two .no (.over (loopD zb1.xe zai (loopC z4e)))) .no)))) Try.func60 (z0p [.xs (fun _ => zup), .den (.loop (subC (bodyC Try.f60) [1, 1, 0, 1, 0, 0])) (loopD zb1.xe zai (loopC z4e))] (by kernel_rfl) ⟨(z2j z1ew), zz2, trivial⟩) (by kernel_rfl) z1if (fun x => by kernel_rfl)
def z1pu : Env := ⟨[], [], []⟩
theorem z17s : EnvsOK Try.prog z1pu := ⟨z0x _, z0u _, z0t _⟩
def zpw : Shp := ⟨19, 0, [], []⟩
def zp9 : Shp := ⟨19, 0, [(4, .d .bool)], []⟩
def zcl : XS := .or (.exit 0) zpw.xe (.one .ret zp9.xe)
theorem z12k : zcl.OK := XS.or_ok (z0c zpw) (XS.one_ok (z0c zp9))
def zco : Shp := ⟨19, 0, [(0, .d c10), (3, .pt 0 r2 []), (5, .d (.int .i64))], [.var 43 (.d c0)]⟩
abbrev zk8 := (List T3) × Int × T0
abbrev zse := (Unit) ⊕ (Bool)
def zkb (l : List T3) (i : Int) (id : T0) : Option (zk8 ⊕ zse) :=
 z0s (List.length l) (
 bif ltI i (List.length l : Nat) then
 (idxI l i).bind fun x =>
 bif eqU c0 x.1 id then
 some (.inr (.inr true))
 else
 some (.inl (l, W64 (i + 1), id))
 else
 some (.inr (.inl ())))
def z7u (s : zk8) : Option (zk8 ⊕ zse) := zkb s.1 s.2.1 s.2.2
theorem z14m : SoundD Try.prog (.loop (subC (bodyC Try.f94) [1, 0, 1, 0, 0])) (loopD zco.xe zcl (loopC z7u)) :=
 z0w (S := zco.xe) (X := zcl) z17s (h := .no) (z0p [] (by kernel_rfl) trivial) (z0c zco) z12k z7u (fun s => by kernel_rfl)
def z18m : Shp := ⟨1, 0, [(0, .d .bool)], []⟩
def z1eg : XS := .one .ret z18m.xe
theorem z1jo : z1eg.OK := XS.one_ok (z0c z18m)
def zts (l : List T3) (id : T0) : Option ((Bool)) :=
 (loopC z7u (l, 0, id)).bind fun o =>
 Sum.elim (fun y =>
 some false) (fun y2 =>
 some y2) o
def z1dx : Sig := ⟨94, [.d c10, .d c0], [], 0, z1eg⟩
def z1bz (x : (List T3) × T0) : Option ((Bool)) := zts x.1 x.2
theorem z1o4 : FnOK Try.prog z1dx z1bz :=
 fn_ok z17s (h := (.two .no (.two (.two .no (.over (loopD zco.xe zcl (loopC z7u)))) .no))) Try.func94 (z0p [.den (.loop (subC (bodyC Try.f94) [1, 0, 1, 0, 0])) (loopD zco.xe zcl (loopC z7u))] (by kernel_rfl) ⟨z14m, trivial⟩) (by kernel_rfl) z1jo (fun x => by kernel_rfl)
def z1oy : Env := ⟨[(entQ zxs zv2), (entQ z1dx z1bz), (entQ zbh za7), (entQ z8v z7k)], [], []⟩
theorem zov : EnvsOK Try.prog z1oy := ⟨z0o (z0q z18j) (z0o (z0q z1o4) (z0o (z0q zc2) (z0o (z0q z9h) (z0x _)))), z0u _, z0t _⟩
def zpy : Shp := ⟨118, 0, [(0, .d c10), (1, .d c4), (5, .pt 0 r12 [])], [.var 85 (.d c11)]⟩
def zpt : Shp := ⟨118, 0, [(6, .d c10), (7, .d (.int .i64))], []⟩
def zci : XS := .or (.exit 0) zpy.xe (.one .ret zpt.xe)
theorem z12c : zci.OK := XS.or_ok (z0c zpy) (XS.one_ok (z0c zpt))
def zcn : Shp := ⟨118, 0, [(0, .d c10), (1, .d c4), (5, .pt 0 r12 []), (8, .d (.int .i64))], [.var 85 (.d c11)]⟩
abbrev zkd := (List T3) × (List T0) × Int × T3
abbrev zs2 := ((List T3) × (List T0) × T3) ⊕ ((List T3) × Int)
def zsc (l : List T3) (base : List T0) (i : Int) (v : T3) : Option (zkd ⊕ zs2) :=
 z0s (List.length base) (
 bif ltI i (List.length base : Nat) then
 (idxI base i).bind fun x =>
 (zql l x).bind fun r =>
 bif neI r.2 0 then
 some (.inr (.inr ([], 2)))
 else
 (idxI base i).bind fun x2 =>
 bif eqI x2.1 0 then
 (idxI base i).bind fun x3 =>
 bif eqI x3.2 0 then
 (idxI base i).bind fun x4 =>
 (zts l x4).bind fun r2 =>
 bif !r2 then
 some (.inr (.inr ([], 2)))
 else
 some (.inl (l, base, W64 (i + 1), v))
 else
 some (.inl (l, base, W64 (i + 1), v))
 else
 some (.inl (l, base, W64 (i + 1), v))
 else
 some (.inr (.inl (l, base, v))))
def z7x (s : zkd) : Option (zkd ⊕ zs2) := zsc s.1 s.2.1 s.2.2.1 s.2.2.2
theorem z12r : SoundD Try.prog (.loop (subC (bodyC Try.f79) [1, 0, 1, 0, 0])) (loopD zcn.xe zci (loopC z7x)) :=
 z0w (S := zcn.xe) (X := zci) zov (h := .no) (z0p [] (by kernel_rfl) trivial) (z0c zcn) z12c z7x (fun s => by kernel_rfl)
def zd8 : Shp := ⟨118, 0, [(0, .d c10), (1, .d c4), (5, .pt 0 r12 []), (11, .wn 1 c11), (12, .d .bool), (13, .d (.int .i64))], [.var 85 (.d c11), .row 85 c11]⟩
def za3 : XS := .one .normal zd8.xe
theorem zku : za3.OK := XS.one_ok (z0c zd8)
def zcq : Shp := ⟨118, 0, [(0, .d c10), (1, .d c4), (5, .pt 0 r12 []), (11, .wn 1 c11), (12, .d .bool), (13, .d (.int .i64)), (79, .d .bool)], [.var 85 (.d c11), .row 85 c11]⟩
def z9f : XS := .one .normal zcq.xe
theorem zjs : z9f.OK := XS.one_ok (z0c zcq)
def z9j : Shp := ⟨118, 0, [(0, .d c10), (1, .d c4), (5, .pt 0 r12 []), (11, .wn 1 c11), (12, .d .bool), (13, .d (.int .i64)), (14, .pt 2 r12 [])], [.var 85 (.d c11), .row 85 c11, .var 85 (.d c11)]⟩
def z2e : XS := .one (.exit 4) z9j.xe
theorem zf4 : z2e.OK := XS.one_ok (z0c z9j)
def z2d : Shp := ⟨118, 0, [(0, .d c10), (1, .d c4), (5, .pt 0 r12 []), (11, .wn 1 c11), (12, .d .bool), (13, .d (.int .i64)), (14, .pt 2 r12 []), (15, .d (.int .i64))], [.var 85 (.d c11), .row 85 c11, .var 85 (.d c11)]⟩
abbrev z5c := (List T3) × (List T0) × Bool × Int × Int × T3 × (List T3) × T3
abbrev za8 := ((List T3) × (List T0) × Bool × Int × T3 × (List T3) × T3)
def za9 (l : List T3) (base : List T0) (put : Bool) (i : Int) (k : Int) (v : T3) (out : List T3) (x : T3) : Option (z5c ⊕ za8) :=
 z0s (List.length base) (
 bif ltI k (List.length base : Nat) then
 (idxI base k).bind fun x2 =>
 bif eqU c0 x2 x.1 then
 (z9k x.2.2 v.1).bind fun r =>
 bif Nat.beq (List.length out) (List.length out) then
 some (.inl (l, base, put, i, W64 (k + 1), v, out, (x.1, x.2.1, r)))
 else none
 else
 bif Nat.beq (List.length out) (List.length out) then
 some (.inl (l, base, put, i, W64 (k + 1), v, out, x))
 else none
 else
 bif Nat.beq (List.length out) (List.length out) then
 some (.inr (l, base, put, i, v, out, x))
 else none)
def z1j (s : z5c) : Option (z5c ⊕ za8) := za9 s.1 s.2.1 s.2.2.1 s.2.2.2.1 s.2.2.2.2.1 s.2.2.2.2.2.1 s.2.2.2.2.2.2.1 s.2.2.2.2.2.2.2
theorem zfh : SoundD Try.prog (.loop (subC (bodyC Try.f79) [1, 1, 1, 1, 1, 0, 1, 0, 0, 1, 0, 0, 1, 1, 0, 1, 0, 0])) (loopD z2d.xe z2e (loopC z1j)) :=
 z0w (S := z2d.xe) (X := z2e) zov (h := .no) (z0p [] (by kernel_rfl) trivial) (z0c z2d) zf4 z1j (fun s => by kernel_rfl)
def zhm : Shp := ⟨118, 0, [(5, .pt 0 r12 []), (11, .wn 1 c11), (12, .d .bool)], [.var 85 (.d c11), .row 85 c11]⟩
def z6s : XS := .one (.exit 2) zhm.xe
theorem zr3 : z6s.OK := XS.one_ok (z0c zhm)
def z6r : Shp := ⟨118, 0, [(0, .d c10), (1, .d c4), (5, .pt 0 r12 []), (11, .wn 1 c11), (12, .d .bool), (13, .d (.int .i64))], [.var 85 (.d c11), .row 85 c11]⟩
abbrev zde := (List T3) × (List T0) × Bool × Int × T3 × (List T3)
abbrev zii := (Bool × T3 × (List T3))
def zdo (l : List T3) (base : List T0) (put : Bool) (i : Int) (v : T3) (out : List T3) : Option (zde ⊕ zii) :=
 z0s (List.length l) (
 bif ltI i (List.length l : Nat) then
 (show Option (((List T3) × (List T0) × Bool × Int × T3 × (List T3))) from
 (show Option (((List T3) × (List T0) × Bool × Int × Bool × T3 × (List T3))) from
 bif !put then
 (idxI l i).bind fun x =>
 (zax v.1 x.1).bind fun r =>
 bif Nat.beq (List.length out) (List.length out) then
 some (l, base, put, i, r, v, out)
 else none
 else
 bif Nat.beq (List.length out) (List.length out) then
 some (l, base, put, i, false, v, out)
 else none).bind fun j =>
 bif j.2.2.2.2.1 then
 bif Nat.beq (List.length j.2.2.2.2.2.2) (List.length j.2.2.2.2.2.2) then
 appG (List.length j.2.2.2.2.2.2) (List.length ([j.2.2.2.2.2.1] : List T3)) 64 fun _ =>
 bif Nat.beq (List.length (j.2.2.2.2.2.2 ++ ([j.2.2.2.2.2.1] : List T3))) (List.length (j.2.2.2.2.2.2 ++ ([j.2.2.2.2.2.1] : List T3))) then
 some (j.1, j.2.1, true, j.2.2.2.1, j.2.2.2.2.2.1, j.2.2.2.2.2.2 ++ ([j.2.2.2.2.2.1] : List T3))
 else none
 else none
 else
 bif Nat.beq (List.length j.2.2.2.2.2.2) (List.length j.2.2.2.2.2.2) then
 some (j.1, j.2.1, j.2.2.1, j.2.2.2.1, j.2.2.2.2.2.1, j.2.2.2.2.2.2)
 else none).bind fun j2 =>
 (idxI j2.1 j2.2.2.2.1).bind fun x2 =>
 bif Nat.beq (List.length j2.2.2.2.2.2) (List.length j2.2.2.2.2.2) then
 (loopC z1j (j2.1, j2.2.1, j2.2.2.1, j2.2.2.2.1, 0, j2.2.2.2.2.1, j2.2.2.2.2.2, x2)).bind fun o =>
 bif Nat.beq (List.length o.2.2.2.2.2.1) (List.length o.2.2.2.2.2.1) then
 appG (List.length o.2.2.2.2.2.1) (List.length ([o.2.2.2.2.2.2] : List T3)) 64 fun _ =>
 bif Nat.beq (List.length (o.2.2.2.2.2.1 ++ ([o.2.2.2.2.2.2] : List T3))) (List.length (o.2.2.2.2.2.1 ++ ([o.2.2.2.2.2.2] : List T3))) then
 some (.inl (o.1, o.2.1, o.2.2.1, W64 (o.2.2.2.1 + 1), o.2.2.2.2.1, o.2.2.2.2.2.1 ++ ([o.2.2.2.2.2.2] : List T3)))
 else none
 else none
 else none
 else
 bif Nat.beq (List.length out) (List.length out) then
 some (.inr (put, v, out))
 else none)
def z3i (s : zde) : Option (zde ⊕ zii) := zdo s.1 s.2.1 s.2.2.1 s.2.2.2.1 s.2.2.2.2.1 s.2.2.2.2.2
theorem zrw : SoundD Try.prog (.loop (subC (bodyC Try.f79) [1, 1, 1, 1, 1, 0, 1, 0, 0])) (loopD z6r.xe z6s (loopC z3i)) :=
 z0w (S := z6r.xe) (X := z6s) zov (h := (.two .no (.two (.join (fun _ => za3) (.join (fun _ => z9f) .no .no) (.two .no (.two (.two .no (.over (loopD z2d.xe z2e (loopC z1j)))) .no))) .no))) (z0p [.xs (fun _ => za3), .xs (fun _ => z9f), .den (.loop (subC (bodyC Try.f79) [1, 1, 1, 1, 1, 0, 1, 0, 0, 1, 0, 0, 1, 1, 0, 1, 0, 0])) (loopD z2d.xe z2e (loopC z1j))] (by kernel_rfl) ⟨(z2j zku), (z2j zjs), zfh, trivial⟩) (z0c z6r) zr3 z3i (fun s => by kernel_rfl)
def z18s : Shp := ⟨1, 0, [(0, .tu [.d c10, .d (.int .i64)])], []⟩
def z1ds : XS := .one .ret z18s.xe
theorem z1ja : z1ds.OK := XS.one_ok (z0c z18s)
def zui (l : List T3) (base : List T0) (v : T3) : Option (((List T3) × Int)) :=
 (loopC z7x (l, base, 0, v)).bind fun o =>
 Sum.elim (fun y =>
 (zts y.1 y.2.2.1).bind fun r =>
 bif r then
 some ([], 11)
 else
 bif Nat.beq 0 (List.length ([] : List T3)) then
 (loopC z3i (y.1, y.2.1, false, 0, y.2.2, ([] : List T3))).bind fun o2 =>
 bif !o2.1 then
 bif Nat.beq (List.length o2.2.2) (List.length o2.2.2) then
 appG (List.length o2.2.2) (List.length ([o2.2.1] : List T3)) 64 fun _ =>
 winK (o2.2.2 ++ ([o2.2.1] : List T3)) 0 (List.length (o2.2.2 ++ ([o2.2.1] : List T3))) fun w =>
 some (w, 0)
 else none
 else
 winK o2.2.2 0 (List.length o2.2.2) fun w2 =>
 some (w2, 0)
 else none) (fun y2 =>
 some (y2.1, y2.2)) o
def z11q : Sig := ⟨79, [.d c10, .d c4, .d c11], [], 0, z1ds⟩
def zy3 (x : (List T3) × (List T0) × T3) : Option (((List T3) × Int)) := zui x.1 x.2.1 x.2.2
theorem z1bq : FnOK Try.prog z11q zy3 :=
 fn_ok zov (h := (.two .no (.two (.two .no (.over (loopD zcn.xe zci (loopC z7x)))) (.two .no (.two .no (.two .no (.two (.two .no (.over (loopD z6r.xe z6s (loopC z3i)))) .no))))))) Try.func79 (z0p [.den (.loop (subC (bodyC Try.f79) [1, 0, 1, 0, 0])) (loopD zcn.xe zci (loopC z7x)), .den (.loop (subC (bodyC Try.f79) [1, 1, 1, 1, 1, 0, 1, 0, 0])) (loopD z6r.xe z6s (loopC z3i))] (by kernel_rfl) ⟨z12r, zrw, trivial⟩) (by kernel_rfl) z1ja (fun x => by kernel_rfl)
def z1ey : Env := ⟨[(entQ zsz zqi), (entQ zjv zmh), (entQ zqc znu), (entQ z8v z7k), (entQ z11q zy3)], [], []⟩
theorem zlb : EnvsOK Try.prog z1ey := ⟨z0o (z0q z10w) (z0o (z0q z12q) (z0o (z0q ztg) (z0o (z0q z9h) (z0o (z0q z1bq) (z0x _))))), z0u _, z0t _⟩
def z7d : Shp := ⟨89, 0, [(0, .d c3), (3, .pt 0 r2 []), (5, .d c10), (6, .d (.int .i64)), (7, .pt 1 r12 []), (8, .d (.int .i64)), (22, .d c3), (23, .d (.int .i64)), (24, .rf (.d c9)), (25, .rf (.d c0)), (26, .d c0), (27, .d c0), (28, .d .bool), (72, .d .bool)], [.var 43 (.d c0), .var 85 (.d c11)]⟩
def z3w : XS := .one .normal z7d.xe
theorem zdj : z3w.OK := XS.one_ok (z0c z7d)
def z9q : Shp := ⟨89, 0, [(0, .d c3), (3, .pt 0 r2 []), (5, .d c10), (6, .d (.int .i64)), (7, .pt 1 r12 []), (22, .d c3), (23, .d (.int .i64)), (24, .rf (.d c9)), (25, .rf (.d c0)), (26, .d c0), (27, .d c0), (28, .d .bool)], [.var 43 (.d c0), .var 85 (.d c11)]⟩
def z2i : XS := .one (.exit 2) z9q.xe
theorem zfg : z2i.OK := XS.one_ok (z0c z9q)
def z2h : Shp := ⟨89, 0, [(0, .d c3), (3, .pt 0 r2 []), (5, .d c10), (6, .d (.int .i64)), (7, .pt 1 r12 []), (8, .d (.int .i64)), (22, .d c3), (23, .d (.int .i64)), (24, .rf (.d c9)), (25, .rf (.d c0)), (26, .d c0), (27, .d c0), (28, .d .bool)], [.var 43 (.d c0), .var 85 (.d c11)]⟩
abbrev z5f := (List T1) × (List T3) × Int × Int × (List T1) × Int × T1 × T0 × T0 × T0 × Bool × T0 × T3
abbrev zan := ((List T1) × (List T3) × Int × (List T1) × Int × T1 × T0 × T0 × T0 × Bool × T0 × T3)
def z5m (l : List T1) (out : List T3) (i : Int) (k : Int) (t22 : List T1) (t23 : Int) (t24 : T1) (t25 : T0) (t26 : T0) (t27 : T0) (t28 : Bool) (obj : T0) (v : T3) : Option (z5f ⊕ zan) :=
 z0s (List.length l) (
 bif ltI k (List.length l : Nat) then
 (show Option (((List T1) × (List T3) × Int × Int × (List T1) × Int × T1 × T0 × T0 × T0 × Bool × Bool × T0 × T3)) from
 (idxI l k).bind fun x =>
 (zf3 x).bind fun r =>
 bif r then
 (idxI l k).bind fun x2 =>
 bif eqU c0 x2.2.2.2.1 obj then
 (idxI l k).bind fun x3 =>
 (zha x3.2.2.2.2.2.2.2.1 v.1).bind fun r2 =>
 some (l, out, i, k, t22, t23, t24, t25, t26, t27, t28, r2, obj, v)
 else
 some (l, out, i, k, t22, t23, t24, t25, t26, t27, t28, false, obj, v)
 else
 some (l, out, i, k, t22, t23, t24, t25, t26, t27, t28, false, obj, v)).bind fun j =>
 bif j.2.2.2.2.2.2.2.2.2.2.2.1 then
 (idxI j.1 j.2.2.2.1).bind fun x4 =>
 (z9k j.2.2.2.2.2.2.2.2.2.2.2.2.2.2.2 x4.1).bind fun r3 =>
 some (.inl (j.1, j.2.1, j.2.2.1, W64 (j.2.2.2.1 + 1), j.2.2.2.2.1, j.2.2.2.2.2.1, j.2.2.2.2.2.2.1, j.2.2.2.2.2.2.2.1, j.2.2.2.2.2.2.2.2.1, j.2.2.2.2.2.2.2.2.2.1, j.2.2.2.2.2.2.2.2.2.2.1, j.2.2.2.2.2.2.2.2.2.2.2.2.1, (j.2.2.2.2.2.2.2.2.2.2.2.2.2.1, j.2.2.2.2.2.2.2.2.2.2.2.2.2.2.1, r3)))
 else
 some (.inl (j.1, j.2.1, j.2.2.1, W64 (j.2.2.2.1 + 1), j.2.2.2.2.1, j.2.2.2.2.2.1, j.2.2.2.2.2.2.1, j.2.2.2.2.2.2.2.1, j.2.2.2.2.2.2.2.2.1, j.2.2.2.2.2.2.2.2.2.1, j.2.2.2.2.2.2.2.2.2.2.1, j.2.2.2.2.2.2.2.2.2.2.2.2.1, j.2.2.2.2.2.2.2.2.2.2.2.2.2))
 else
 some (.inr (l, out, i, t22, t23, t24, t25, t26, t27, t28, obj, v)))
def z1g (s : z5f) : Option (z5f ⊕ zan) := z5m s.1 s.2.1 s.2.2.1 s.2.2.2.1 s.2.2.2.2.1 s.2.2.2.2.2.1 s.2.2.2.2.2.2.1 s.2.2.2.2.2.2.2.1 s.2.2.2.2.2.2.2.2.1 s.2.2.2.2.2.2.2.2.2.1 s.2.2.2.2.2.2.2.2.2.2.1 s.2.2.2.2.2.2.2.2.2.2.2.1 s.2.2.2.2.2.2.2.2.2.2.2.2
theorem zfm : SoundD Try.prog (.loop (subC (bodyC Try.f55) [1, 1, 0, 1, 0, 0, 1, 0, 0, 1, 1, 0, 1, 0, 0])) (loopD z2h.xe z2i (loopC z1g)) :=
 z0w (S := z2h.xe) (X := z2i) zlb (h := (.two .no (.two (.join (fun _ => z3w) .no .no) .no))) (z0p [.xs (fun _ => z3w)] (by kernel_rfl) ⟨(z2j zdj), trivial⟩) (z0c z2h) zfg z1g (fun s => by kernel_rfl)
def zi0 : Shp := ⟨89, 0, [(5, .d c10)], []⟩
def z7f : XS := .one (.exit 0) zi0.xe
theorem zs1 : z7f.OK := XS.one_ok (z0c zi0)
def z7e : Shp := ⟨89, 0, [(0, .d c3), (3, .pt 0 r2 []), (5, .d c10), (6, .d (.int .i64))], [.var 43 (.d c0)]⟩
abbrev ze1 := (List T1) × (List T3) × Int × T0
abbrev zjp := ((List T3))
def ze0 (l : List T1) (out : List T3) (i : Int) (obj : T0) : Option (ze1 ⊕ zjp) :=
 z0s (List.length l) (
 bif ltI i (List.length l : Nat) then
 (idxI l i).bind fun x =>
 (zf3 x).bind fun r =>
 bif !r then
 some (.inl (l, out, W64 (i + 1), obj))
 else
 (idxI l i).bind fun x2 =>
 bif !(eqU c0 x2.2.2.2.1 obj) then
 some (.inl (l, out, W64 (i + 1), obj))
 else
 (idxI l i).bind fun x3 =>
 (idxI l i).bind fun x4 =>
 (z11v l x4.1).bind fun r2 =>
 (loopC z1g (l, out, i, 0, l, i, x2, x2.2.2.2.1, x2.2.2.2.1, obj, !(eqU c0 x2.2.2.2.1 obj), obj, (x3.1, r2, List.replicate 8 (0 : Int)))).bind fun o =>
 (zui o.2.1 [] o.2.2.2.2.2.2.2.2.2.2.2).bind fun r3 =>
 some (.inl (o.1, r3.1, W64 (o.2.2.1 + 1), o.2.2.2.2.2.2.2.2.2.2.1))
 else
 some (.inr out))
def z3m (s : ze1) : Option (ze1 ⊕ zjp) := ze0 s.1 s.2.1 s.2.2.1 s.2.2.2
theorem zt4 : SoundD Try.prog (.loop (subC (bodyC Try.f55) [1, 1, 0, 1, 0, 0])) (loopD z7e.xe z7f (loopC z3m)) :=
 z0w (S := z7e.xe) (X := z7f) zlb (h := (.two .no (.two (.two .no (.two .no (.two (.two .no (.over (loopD z2h.xe z2i (loopC z1g)))) .no))) .no))) (z0p [.den (.loop (subC (bodyC Try.f55) [1, 1, 0, 1, 0, 0, 1, 0, 0, 1, 1, 0, 1, 0, 0])) (loopD z2h.xe z2i (loopC z1g))] (by kernel_rfl) ⟨zfm, trivial⟩) (z0c z7e) zs1 z3m (fun s => by kernel_rfl)
def zu0 : Shp := ⟨1, 0, [(0, .d c10)], []⟩
def zxf : XS := .one .ret zu0.xe
theorem z19b : zxf.OK := XS.one_ok (z0c zu0)
def zmr (l : List T1) (obj : T0) : Option (((List T3))) :=
 (loopC z3m (l, [], 0, obj)).bind fun o =>
 some o
def zyo : Sig := ⟨55, [.d c3, .d c0], [], 0, zxf⟩
def zva (x : (List T1) × T0) : Option (((List T3))) := zmr x.1 x.2
theorem z1dg : FnOK Try.prog zyo zva :=
 fn_ok zlb (h := (.two .no (.two .no (.two (.two .no (.over (loopD z7e.xe z7f (loopC z3m)))) .no)))) Try.func55 (z0p [.den (.loop (subC (bodyC Try.f55) [1, 1, 0, 1, 0, 0])) (loopD z7e.xe z7f (loopC z3m))] (by kernel_rfl) ⟨zt4, trivial⟩) (by kernel_rfl) z19b (fun x => by kernel_rfl)
def z1jf : Env := ⟨[(entQ zyo zva), (entQ zbh za7), (entQ z8v z7k), (entQ zld zjn)], [], []⟩
theorem zxm : EnvsOK Try.prog z1jf := ⟨z0o (z0q z1dg) (z0o (z0q zc2) (z0o (z0q z9h) (z0o (z0q zow) (z0x _)))), z0u _, z0t _⟩
def zdx : Shp := ⟨85, 0, [(0, .d c3), (3, .pt 0 r8 []), (4, .pt 1 r13 []), (5, .pt 2 r13 []), (6, .d (.int .i64))], [.var 67 (.d c9), .var 49 (.d c14), .var 49 (.d c14)]⟩
def zaz : XS := .one .normal zdx.xe
theorem zm0 : zaz.OK := XS.one_ok (z0c zdx)
def zd4 : Shp := ⟨85, 0, [(0, .d c3), (3, .pt 0 r8 []), (4, .pt 1 r13 []), (5, .pt 2 r13 []), (6, .d (.int .i64)), (50, .d .bool)], [.var 67 (.d c9), .var 49 (.d c14), .var 49 (.d c14)]⟩
def z9m : XS := .one .normal zd4.xe
theorem zka : z9m.OK := XS.one_ok (z0c zd4)
def zjx : Shp := ⟨85, 0, [(4, .pt 0 r13 []), (5, .pt 1 r13 [])], [.var 49 (.d c14), .var 49 (.d c14)]⟩
def z9c : XS := .one (.exit 0) zjx.xe
theorem zu1 : z9c.OK := XS.one_ok (z0c zjx)
def z8p : Shp := ⟨85, 0, [(0, .d c3), (3, .pt 0 r8 []), (4, .pt 1 r13 []), (5, .pt 2 r13 []), (6, .d (.int .i64))], [.var 67 (.d c9), .var 49 (.d c14), .var 49 (.d c14)]⟩
abbrev zf7 := (List T1) × Int × T1 × T4 × T4
abbrev zlm := (T4 × T4)
def zfc (l : List T1) (i : Int) (t3 : T1) (t4 : T4) (o : T4) : Option (zf7 ⊕ zlm) :=
 z0s (List.length l) (
 bif ltI i (List.length l : Nat) then
 (idxI l i).bind fun x =>
 bif !(eqU c0 x.2.2.2.1 t3.1) then
 some (.inl (l, W64 (i + 1), t3, t4, o))
 else
 (show Option (((List T1) × Int × T1 × T4 × T4)) from
 (show Option (((List T1) × Int × Bool × T1 × T4 × T4)) from
 (idxI l i).bind fun x2 =>
 bif eqI x2.2.2.1 7 then
 (idxI l i).bind fun x3 =>
 (zax o.2.2.1 x3.1).bind fun r =>
 some (l, i, r, t3, t4, o)
 else
 some (l, i, false, t3, t4, o)).bind fun j =>
 bif j.2.2.1 then
 (idxI j.1 j.2.1).bind fun x4 =>
 (idxI j.1 j.2.1).bind fun x5 =>
 some (j.1, j.2.1, j.2.2.2.1, j.2.2.2.2.1, ((j.2.2.2.2.2.1, j.2.2.2.2.2.2.1, x4.1, j.2.2.2.2.2.2.2.2).1, (j.2.2.2.2.2.1, j.2.2.2.2.2.2.1, x4.1, j.2.2.2.2.2.2.2.2).2.1, (j.2.2.2.2.2.1, j.2.2.2.2.2.2.1, x4.1, j.2.2.2.2.2.2.2.2).2.2.1, x5.2.2.2.2.2.1, (j.2.2.2.2.2.1, j.2.2.2.2.2.2.1, x4.1, j.2.2.2.2.2.2.2.2).2.2.2.2))
 else
 some (j.1, j.2.1, j.2.2.2.1, j.2.2.2.2.1, j.2.2.2.2.2)).bind fun j2 =>
 (idxI j2.1 j2.2.1).bind fun x6 =>
 bif eqI x6.2.2.1 6 then
 (idxI j2.1 j2.2.1).bind fun x7 =>
 (idxI j2.1 j2.2.1).bind fun x8 =>
 (z9k x7.2.1 x8.1).bind fun r2 =>
 (zj4 j2.2.2.2.2.2.2.2.2.1 r2).bind fun r3 =>
 some (.inl (j2.1, W64 (j2.2.1 + 1), j2.2.2.1, j2.2.2.2.1, (j2.2.2.2.2.1, j2.2.2.2.2.2.1, j2.2.2.2.2.2.2.1, j2.2.2.2.2.2.2.2.1, r3, j2.2.2.2.2.2.2.2.2.2)))
 else
 some (.inl (j2.1, W64 (j2.2.1 + 1), j2.2.2.1, j2.2.2.2.1, j2.2.2.2.2))
 else
 some (.inr (t4, o)))
def z4m (s : zf7) : Option (zf7 ⊕ zlm) := zfc s.1 s.2.1 s.2.2.1 s.2.2.2.1 s.2.2.2.2
theorem zv3 : SoundD Try.prog (.loop (subC (bodyC Try.f30) [1, 1, 0, 1, 0, 0])) (loopD z8p.xe z9c (loopC z4m)) :=
 z0w (S := z8p.xe) (X := z9c) zxm (h := (.two .no (.two (.two .no (.join (fun _ => zaz) (.join (fun _ => z9m) .no .no) .no)) .no))) (z0p [.xs (fun _ => zaz), .xs (fun _ => z9m)] (by kernel_rfl) ⟨(z2j zm0), (z2j zka), trivial⟩) (z0c z8p) zu1 z4m (fun s => by kernel_rfl)
def zxq : Shp := ⟨1, 0, [(0, .d c14)], []⟩
def z13g : XS := .one .ret zxq.xe
theorem z1di : z13g.OK := XS.one_ok (z0c zxq)
def zri (l : List T1) (t1 : T1) : Option ((T4)) :=
 (zmr l t1.1).bind fun r =>
 (loopC z4m (l, 0, t1, ((0, 0), false, (0, 0), [], List.replicate 8 (0 : Int), []), (t1.1, eqI t1.2.2.1 2, t1.1, t1.2.2.2.2.2.1, List.replicate 8 (0 : Int), r))).bind fun o =>
 some o.2
def z13v : Sig := ⟨30, [.d c3, .d c9], [], 0, z13g⟩
def zzt (x : (List T1) × T1) : Option ((T4)) := zri x.1 x.2
theorem z1hr : FnOK Try.prog z13v zzt :=
 fn_ok zxm (h := (.two .no (.two .no (.two (.two .no (.over (loopD z8p.xe z9c (loopC z4m)))) .no)))) Try.func30 (z0p [.den (.loop (subC (bodyC Try.f30) [1, 1, 0, 1, 0, 0])) (loopD z8p.xe z9c (loopC z4m))] (by kernel_rfl) ⟨zv3, trivial⟩) (by kernel_rfl) z1di (fun x => by kernel_rfl)
def z1pt : Env := ⟨[], [], []⟩
theorem z18t : EnvsOK Try.prog z1pt := ⟨z0x _, z0u _, z0t _⟩
def zpx : Shp := ⟨17, 0, [], []⟩
def zpr : Shp := ⟨17, 0, [(4, .d (.int .u32))], []⟩
def zcj : XS := .or (.exit 0) zpx.xe (.one .ret zpr.xe)
theorem z11n : zcj.OK := XS.or_ok (z0c zpx) (XS.one_ok (z0c zpr))
def zcm : Shp := ⟨17, 0, [(1, .d (.int .i64)), (2, .pt 0 (.one (.arr 8 .leaf)) []), (5, .d (.int .i64))], [.var 25 (.d c1)]⟩
abbrev zke := Int × Int × (List Int)
abbrev zs5 := (Unit) ⊕ (Int)
def zk6 (rep : Int) (i : Int) (v : List Int) : Option (zke ⊕ zs5) :=
 bif ltI i 8 then
 bif eqI (W64 (i + 1)) rep then
 bif inI i 8 then
 (v[i.toNat]?).bind fun x =>
 some (.inr (.inr x))
 else none
 else
 some (.inl (rep, W64 (i + 1), v))
 else
 some (.inr (.inl ()))
def z7w (s : zke) : Option (zke ⊕ zs5) := zk6 s.1 s.2.1 s.2.2
theorem z12s : SoundD Try.prog (.loop (subC (bodyC Try.f32) [1, 0, 1, 0, 0])) (loopD zcm.xe zcj (loopC z7w)) :=
 z0w (S := zcm.xe) (X := zcj) z18t (h := .no) (z0p [] (by kernel_rfl) trivial) (z0c zcm) z11n z7w (fun s => by kernel_rfl)
def z18y : Shp := ⟨1, 0, [(0, .d (.int .u32))], []⟩
def z1dr : XS := .one .ret z18y.xe
theorem z1jr : z1dr.OK := XS.one_ok (z0c z18y)
def zm6 (v : List Int) (rep : Int) : Option ((Int)) :=
 (loopC z7w (rep, 0, v)).bind fun o =>
 Sum.elim (fun y =>
 some 0) (fun y2 =>
 some y2) o
def zo5 : Sig := ⟨32, [.d c1, .d (.int .i64)], [], 0, z1dr⟩
def zlt (x : (List Int) × Int) : Option ((Int)) := zm6 x.1 x.2
theorem zrr : FnOK Try.prog zo5 zlt :=
 fn_ok z18t (h := (.two .no (.two (.two .no (.over (loopD zcm.xe zcj (loopC z7w)))) .no))) Try.func32 (z0p [.den (.loop (subC (bodyC Try.f32) [1, 0, 1, 0, 0])) (loopD zcm.xe zcj (loopC z7w))] (by kernel_rfl) ⟨z12s, trivial⟩) (by kernel_rfl) z1jr (fun x => by kernel_rfl)
def z1ly : Env := ⟨[(entQ zv7 zsi), (entQ z10o zyf), (entQ z13v zzt), (entQ zbh za7), (entQ zo5 zlt), (entQ z8v z7k)], [], []⟩
theorem zr8 : EnvsOK Try.prog z1ly := ⟨z0o (z0q z14d) (z0o (z0q z1g4) (z0o (z0q z1hr) (z0o (z0q zc2) (z0o (z0q zrr) (z0o (z0q z9h) (z0x _)))))), z0u _, z0t _⟩
def zdd : Shp := ⟨108, 0, [(0, .d c3), (2, .pt 0 r15 []), (3, .pt 1 r15 []), (4, .pt 2 (.one (.arr 8 .leaf)) []), (5, .d (.int .i64)), (6, .pt 3 r8 [])], [.var 33 (.ag [.d c1, .wn 4 c14, .wn 5 c6, .d c16, .d (.arr 8 .bool)]), .var 33 (.ag [.d c1, .wn 6 c14, .d c5, .d c16, .d (.arr 8 .bool)]), .var 25 (.d c1), .var 67 (.d c9), .row 49 c14, .row 45 c6, .row 49 c14]⟩
def za4 : XS := .one .normal zdd.xe
theorem zkr : za4.OK := XS.one_ok (z0c zdd)
def zcr : Shp := ⟨108, 0, [(0, .d c3), (2, .pt 0 r15 []), (3, .pt 1 r15 []), (4, .pt 2 (.one (.arr 8 .leaf)) []), (5, .d (.int .i64)), (6, .pt 3 r8 []), (33, .d .bool)], [.var 33 (.ag [.d c1, .wn 4 c14, .wn 5 c6, .d c16, .d (.arr 8 .bool)]), .var 33 (.ag [.d c1, .wn 6 c14, .d c5, .d c16, .d (.arr 8 .bool)]), .var 25 (.d c1), .var 67 (.d c9), .row 49 c14, .row 45 c6, .row 49 c14]⟩
def z8y : XS := .one .normal zcr.xe
theorem zjy : z8y.OK := XS.one_ok (z0c zcr)
def z7o : Shp := ⟨108, 0, [(0, .d c3), (2, .pt 0 r15 []), (3, .pt 1 r15 []), (4, .pt 2 (.one (.arr 8 .leaf)) []), (5, .d (.int .i64)), (6, .pt 3 r8 []), (7, .pt 4 r13 []), (8, .d (.int .i64))], [.var 33 (.ag [.d c1, .wn 5 c14, .wn 6 c6, .d c16, .d (.arr 8 .bool)]), .var 33 (.ag [.d c1, .wn 7 c14, .d c5, .d c16, .d (.arr 8 .bool)]), .var 25 (.d c1), .var 67 (.d c9), .var 49 (.d c14), .row 49 c14, .row 45 c6, .row 49 c14]⟩
def z1t : XS := .one (.exit 2) z7o.xe
theorem zdz : z1t.OK := XS.one_ok (z0c z7o)
def z1v : Shp := ⟨108, 0, [(0, .d c3), (2, .pt 0 r15 []), (3, .pt 1 r15 []), (4, .pt 2 (.one (.arr 8 .leaf)) []), (5, .d (.int .i64)), (6, .pt 3 r8 []), (7, .pt 4 r13 []), (8, .d (.int .i64))], [.var 33 (.ag [.d c1, .wn 5 c14, .wn 6 c6, .d c16, .d (.arr 8 .bool)]), .var 33 (.ag [.d c1, .wn 7 c14, .d c5, .d c16, .d (.arr 8 .bool)]), .var 25 (.d c1), .var 67 (.d c9), .var 49 (.d c14), .row 49 c14, .row 45 c6, .row 49 c14]⟩
abbrev z4k := (List T1) × Int × Int × (List Int) × (List Int) × (List Bool) × (List Int) × (List T2) × (List Int) × (List Bool) × (List Int) × T1 × T4 × (List T4) × (List T2) × (List T4)
abbrev z8m := ((List T1) × Int × Int × (List Int) × (List Int) × (List Bool) × (List Int) × (List T2) × (List Int) × (List Bool) × (List Int) × T1 × T4 × (List T4) × (List T2) × (List T4))
def z4j (l : List T1) (i : Int) (k : Int) (t2 : List Int) (t22 : List Int) (t23 : List Bool) (t3 : List Int) (t32 : List T2) (t33 : List Int) (t34 : List Bool) (latest : List Int) (t6 : T1) (o : T4) (t24 : List T4) (t25 : List T2) (t35 : List T4) : Option (z4k ⊕ z8m) :=
 bif ltI 0 k then
 bif inI (W64 (k - 1)) (List.length t35) then
 (t35[(W64 (k - 1)).toNat]?).bind fun x =>
 (zax o.1 x.1).bind fun r =>
 bif r then
 bif Nat.beq (List.length t24) (List.length t24) then
 bif Nat.beq (List.length t25) (List.length t25) then
 bif Nat.beq (List.length t35) (List.length t35) then
 some (.inl (l, i, W64 (k - 1), t2, t22, t23, t3, t32, t33, t34, latest, t6, o, t24, t25, t35))
 else none
 else none
 else none
 else
 bif Nat.beq (List.length t24) (List.length t24) then
 bif Nat.beq (List.length t25) (List.length t25) then
 bif Nat.beq (List.length t35) (List.length t35) then
 some (.inr (l, i, k, t2, t22, t23, t3, t32, t33, t34, latest, t6, o, t24, t25, t35))
 else none
 else none
 else none
 else none
 else
 bif Nat.beq (List.length t24) (List.length t24) then
 bif Nat.beq (List.length t25) (List.length t25) then
 bif Nat.beq (List.length t35) (List.length t35) then
 some (.inr (l, i, k, t2, t22, t23, t3, t32, t33, t34, latest, t6, o, t24, t25, t35))
 else none
 else none
 else none
def z1b (s : z4k) : Option (z4k ⊕ z8m) := z4j s.1 s.2.1 s.2.2.1 s.2.2.2.1 s.2.2.2.2.1 s.2.2.2.2.2.1 s.2.2.2.2.2.2.1 s.2.2.2.2.2.2.2.1 s.2.2.2.2.2.2.2.2.1 s.2.2.2.2.2.2.2.2.2.1 s.2.2.2.2.2.2.2.2.2.2.1 s.2.2.2.2.2.2.2.2.2.2.2.1 s.2.2.2.2.2.2.2.2.2.2.2.2.1 s.2.2.2.2.2.2.2.2.2.2.2.2.2.1 s.2.2.2.2.2.2.2.2.2.2.2.2.2.2.1 s.2.2.2.2.2.2.2.2.2.2.2.2.2.2.2
theorem zed : SoundD Try.prog (.loop (subC (bodyC Try.f10) [1, 1, 1, 0, 1, 0, 0, 1, 0, 0, 1, 0, 1, 0, 1, 1, 0, 0, 0])) (loopD z1v.xe z1t (loopC z1b)) :=
 z0w (S := z1v.xe) (X := z1t) zr8 (h := .no) (z0p [] (by kernel_rfl) trivial) (z0c z1v) zdz z1b (fun s => by kernel_rfl)
def zcp : Shp := ⟨108, 0, [(0, .d c3), (2, .pt 0 r15 []), (3, .pt 1 r15 []), (4, .pt 2 (.one (.arr 8 .leaf)) []), (5, .d (.int .i64)), (6, .pt 3 r8 [])], [.var 33 (.ag [.d c1, .wn 4 c14, .wn 5 c6, .d c16, .d (.arr 8 .bool)]), .var 33 (.ag [.d c1, .wn 6 c14, .d c5, .d c16, .d (.arr 8 .bool)]), .var 25 (.d c1), .var 67 (.d c9), .row 49 c14, .row 45 c6, .row 49 c14]⟩
def z9a : XS := .one .normal zcp.xe
theorem zjt : z9a.OK := XS.one_ok (z0c zcp)
def zc7 : Shp := ⟨108, 0, [(0, .d c3), (2, .pt 0 r15 []), (3, .pt 1 r15 []), (4, .pt 2 (.one (.arr 8 .leaf)) []), (5, .d (.int .i64)), (6, .pt 3 r8 []), (85, .d .bool)], [.var 33 (.ag [.d c1, .wn 4 c14, .wn 5 c6, .d c16, .d (.arr 8 .bool)]), .var 33 (.ag [.d c1, .wn 6 c14, .d c5, .d c16, .d (.arr 8 .bool)]), .var 25 (.d c1), .var 67 (.d c9), .row 49 c14, .row 45 c6, .row 49 c14]⟩
def z7s : XS := .one .normal zc7.xe
theorem zif : z7s.OK := XS.one_ok (z0c zc7)
def zij : Shp := ⟨108, 0, [(2, .pt 0 r15 []), (3, .pt 1 r15 [])], [.var 33 (.ag [.d c1, .wn 2 c14, .wn 3 c6, .d c16, .d (.arr 8 .bool)]), .var 33 (.ag [.d c1, .wn 4 c14, .d c5, .d c16, .d (.arr 8 .bool)]), .row 49 c14, .row 45 c6, .row 49 c14]⟩
def z8g : XS := .one (.exit 0) zij.xe
theorem ztb : z8g.OK := XS.one_ok (z0c zij)
def z8c : Shp := ⟨108, 0, [(0, .d c3), (2, .pt 0 r15 []), (3, .pt 1 r15 []), (4, .pt 2 (.one (.arr 8 .leaf)) []), (5, .d (.int .i64))], [.var 33 (.ag [.d c1, .wn 3 c14, .wn 4 c6, .d c16, .d (.arr 8 .bool)]), .var 33 (.ag [.d c1, .wn 5 c14, .d c5, .d c16, .d (.arr 8 .bool)]), .var 25 (.d c1), .row 49 c14, .row 45 c6, .row 49 c14]⟩
abbrev zej := (List T1) × Int × (List Int) × (List Int) × (List Bool) × (List Int) × (List T2) × (List Int) × (List Bool) × (List Int) × (List T4) × (List T2) × (List T4)
abbrev zkl := ((List Int) × (List Int) × (List Bool) × (List Int) × (List T2) × (List Int) × (List Bool) × (List T4) × (List T2) × (List T4))
def zei (l : List T1) (i : Int) (t2 : List Int) (t22 : List Int) (t23 : List Bool) (t3 : List Int) (t32 : List T2) (t33 : List Int) (t34 : List Bool) (latest : List Int) (t24 : List T4) (t25 : List T2) (t35 : List T4) : Option (zej ⊕ zkl) :=
 z0s (List.length l) (
 bif ltI i (List.length l : Nat) then
 (idxI l i).bind fun x =>
 (show Option (((List T1) × Int × (List Int) × (List Int) × (List Bool) × (List Int) × (List T2) × (List Int) × (List Bool) × (List Int) × T1 × (List T4) × (List T2) × (List T4))) from
 (show Option (((List T1) × Int × Bool × (List Int) × (List Int) × (List Bool) × (List Int) × (List T2) × (List Int) × (List Bool) × (List Int) × T1 × (List T4) × (List T2) × (List T4))) from
 bif eqI x.2.2.1 1 then
 bif Nat.beq (List.length t24) (List.length t24) then
 bif Nat.beq (List.length t25) (List.length t25) then
 bif Nat.beq (List.length t35) (List.length t35) then
 some (l, i, true, t2, t22, t23, t3, t32, t33, t34, latest, x, t24, t25, t35)
 else none
 else none
 else none
 else
 bif Nat.beq (List.length t24) (List.length t24) then
 bif Nat.beq (List.length t25) (List.length t25) then
 bif Nat.beq (List.length t35) (List.length t35) then
 some (l, i, eqI x.2.2.1 2, t2, t22, t23, t3, t32, t33, t34, latest, x, t24, t25, t35)
 else none
 else none
 else none).bind fun j =>
 bif j.2.2.1 then
 (zri j.1 j.2.2.2.2.2.2.2.2.2.2.2.1).bind fun r =>
 z0s (List.length j.2.2.2.2.2.2.2.2.2.2.2.2.2.2) (
 bif Nat.beq (List.length j.2.2.2.2.2.2.2.2.2.2.2.2.1) (List.length j.2.2.2.2.2.2.2.2.2.2.2.2.1) then
 bif Nat.beq (List.length j.2.2.2.2.2.2.2.2.2.2.2.2.2.1) (List.length j.2.2.2.2.2.2.2.2.2.2.2.2.2.1) then
 bif Nat.beq (List.length j.2.2.2.2.2.2.2.2.2.2.2.2.2.2) (List.length j.2.2.2.2.2.2.2.2.2.2.2.2.2.2) then
 (loopC z1b (j.1, j.2.1, (List.length j.2.2.2.2.2.2.2.2.2.2.2.2.2.2 : Nat), j.2.2.2.1, j.2.2.2.2.1, j.2.2.2.2.2.1, j.2.2.2.2.2.2.1, j.2.2.2.2.2.2.2.1, j.2.2.2.2.2.2.2.2.1, j.2.2.2.2.2.2.2.2.2.1, j.2.2.2.2.2.2.2.2.2.2.1, j.2.2.2.2.2.2.2.2.2.2.2.1, r, j.2.2.2.2.2.2.2.2.2.2.2.2.1, j.2.2.2.2.2.2.2.2.2.2.2.2.2.1, j.2.2.2.2.2.2.2.2.2.2.2.2.2.2)).bind fun o =>
 bif subOk o.2.2.1 (List.length o.2.2.2.2.2.2.2.2.2.2.2.2.2.2.2 : Nat) (List.length o.2.2.2.2.2.2.2.2.2.2.2.2.2.2.2) then
 winK o.2.2.2.2.2.2.2.2.2.2.2.2.2.2.2 o.2.2.1.toNat ((List.length o.2.2.2.2.2.2.2.2.2.2.2.2.2.2.2) - o.2.2.1.toNat) fun w =>
 appG (List.length ([o.2.2.2.2.2.2.2.2.2.2.2.2.1] : List T4)) (List.length w) 112 fun _ =>
 bif subOk 0 o.2.2.1 (List.length o.2.2.2.2.2.2.2.2.2.2.2.2.2.2.2) then
 winK o.2.2.2.2.2.2.2.2.2.2.2.2.2.2.2 0 o.2.2.1.toNat fun w2 =>
 appG (List.length ([] : List T4)) (List.length w2) 112 fun _ =>
 bif Nat.beq (List.length w2) (List.length w2) then
 appG (List.length w2) (List.length (([o.2.2.2.2.2.2.2.2.2.2.2.2.1] : List T4) ++ w)) 112 fun _ =>
 bif Nat.beq (List.length o.2.2.2.2.2.2.2.2.2.2.2.2.2.1) (List.length o.2.2.2.2.2.2.2.2.2.2.2.2.2.1) then
 bif Nat.beq (List.length o.2.2.2.2.2.2.2.2.2.2.2.2.2.2.1) (List.length o.2.2.2.2.2.2.2.2.2.2.2.2.2.2.1) then
 bif Nat.beq (List.length (w2 ++ (([o.2.2.2.2.2.2.2.2.2.2.2.2.1] : List T4) ++ w))) (List.length (w2 ++ (([o.2.2.2.2.2.2.2.2.2.2.2.2.1] : List T4) ++ w))) then
 some (o.1, o.2.1, o.2.2.2.1, o.2.2.2.2.1, o.2.2.2.2.2.1, o.2.2.2.2.2.2.1, o.2.2.2.2.2.2.2.1, o.2.2.2.2.2.2.2.2.1, o.2.2.2.2.2.2.2.2.2.1, o.2.2.2.2.2.2.2.2.2.2.1, o.2.2.2.2.2.2.2.2.2.2.2.1, o.2.2.2.2.2.2.2.2.2.2.2.2.2.1, o.2.2.2.2.2.2.2.2.2.2.2.2.2.2.1, w2 ++ (([o.2.2.2.2.2.2.2.2.2.2.2.2.1] : List T4) ++ w))
 else none
 else none
 else none
 else none
 else none
 else none
 else none
 else none
 else none)
 else
 bif Nat.beq (List.length j.2.2.2.2.2.2.2.2.2.2.2.2.1) (List.length j.2.2.2.2.2.2.2.2.2.2.2.2.1) then
 bif Nat.beq (List.length j.2.2.2.2.2.2.2.2.2.2.2.2.2.1) (List.length j.2.2.2.2.2.2.2.2.2.2.2.2.2.1) then
 bif Nat.beq (List.length j.2.2.2.2.2.2.2.2.2.2.2.2.2.2) (List.length j.2.2.2.2.2.2.2.2.2.2.2.2.2.2) then
 some (j.1, j.2.1, j.2.2.2.1, j.2.2.2.2.1, j.2.2.2.2.2.1, j.2.2.2.2.2.2.1, j.2.2.2.2.2.2.2.1, j.2.2.2.2.2.2.2.2.1, j.2.2.2.2.2.2.2.2.2.1, j.2.2.2.2.2.2.2.2.2.2.1, j.2.2.2.2.2.2.2.2.2.2.2.1, j.2.2.2.2.2.2.2.2.2.2.2.2.1, j.2.2.2.2.2.2.2.2.2.2.2.2.2.1, j.2.2.2.2.2.2.2.2.2.2.2.2.2.2)
 else none
 else none
 else none).bind fun j2 =>
 (show Option (((List T1) × Int × (List Int) × (List Int) × (List Bool) × (List Int) × (List T2) × (List Int) × (List Bool) × (List Int) × T1 × (List T4) × (List T2) × (List T4))) from
 (show Option (((List T1) × Int × Bool × (List Int) × (List Int) × (List Bool) × (List Int) × (List T2) × (List Int) × (List Bool) × (List Int) × T1 × (List T4) × (List T2) × (List T4))) from
 bif eqI j2.2.2.2.2.2.2.2.2.2.2.1.2.2.1 8 then
 (zm6 j2.2.2.2.2.2.2.2.2.2.1 j2.2.2.2.2.2.2.2.2.2.2.1.1.1).bind fun r2 =>
 bif Nat.beq (List.length j2.2.2.2.2.2.2.2.2.2.2.2.1) (List.length j2.2.2.2.2.2.2.2.2.2.2.2.1) then
 bif Nat.beq (List.length j2.2.2.2.2.2.2.2.2.2.2.2.2.1) (List.length j2.2.2.2.2.2.2.2.2.2.2.2.2.1) then
 bif Nat.beq (List.length j2.2.2.2.2.2.2.2.2.2.2.2.2.2) (List.length j2.2.2.2.2.2.2.2.2.2.2.2.2.2) then
 some (j2.1, j2.2.1, ltI r2 j2.2.2.2.2.2.2.2.2.2.2.1.1.2, j2.2.2.1, j2.2.2.2.1, j2.2.2.2.2.1, j2.2.2.2.2.2.1, j2.2.2.2.2.2.2.1, j2.2.2.2.2.2.2.2.1, j2.2.2.2.2.2.2.2.2.1, j2.2.2.2.2.2.2.2.2.2.1, j2.2.2.2.2.2.2.2.2.2.2.1, j2.2.2.2.2.2.2.2.2.2.2.2.1, j2.2.2.2.2.2.2.2.2.2.2.2.2.1, j2.2.2.2.2.2.2.2.2.2.2.2.2.2)
 else none
 else none
 else none
 else
 bif Nat.beq (List.length j2.2.2.2.2.2.2.2.2.2.2.2.1) (List.length j2.2.2.2.2.2.2.2.2.2.2.2.1) then
 bif Nat.beq (List.length j2.2.2.2.2.2.2.2.2.2.2.2.2.1) (List.length j2.2.2.2.2.2.2.2.2.2.2.2.2.1) then
 bif Nat.beq (List.length j2.2.2.2.2.2.2.2.2.2.2.2.2.2) (List.length j2.2.2.2.2.2.2.2.2.2.2.2.2.2) then
 some (j2.1, j2.2.1, false, j2.2.2.1, j2.2.2.2.1, j2.2.2.2.2.1, j2.2.2.2.2.2.1, j2.2.2.2.2.2.2.1, j2.2.2.2.2.2.2.2.1, j2.2.2.2.2.2.2.2.2.1, j2.2.2.2.2.2.2.2.2.2.1, j2.2.2.2.2.2.2.2.2.2.2.1, j2.2.2.2.2.2.2.2.2.2.2.2.1, j2.2.2.2.2.2.2.2.2.2.2.2.2.1, j2.2.2.2.2.2.2.2.2.2.2.2.2.2)
 else none
 else none
 else none).bind fun j3 =>
 bif j3.2.2.1 then
 (z9k j3.2.2.2.2.2.2.2.2.2.2.1 j3.2.2.2.2.2.2.2.2.2.2.2.1.1).bind fun r3 =>
 bif inI (W64 (j3.2.2.2.2.2.2.2.2.2.2.2.1.1.1 - 1)) 8 then
 (j3.2.2.2.2.2.2.2.2.1[(W64 (j3.2.2.2.2.2.2.2.2.2.2.2.1.1.1 - 1)).toNat]?).bind fun _x =>
 bif Nat.beq (List.length j3.2.2.2.2.2.2.2.2.2.2.2.2.1) (List.length j3.2.2.2.2.2.2.2.2.2.2.2.2.1) then
 bif Nat.beq (List.length j3.2.2.2.2.2.2.2.2.2.2.2.2.2.1) (List.length j3.2.2.2.2.2.2.2.2.2.2.2.2.2.1) then
 bif Nat.beq (List.length j3.2.2.2.2.2.2.2.2.2.2.2.2.2.2) (List.length j3.2.2.2.2.2.2.2.2.2.2.2.2.2.2) then
 some ((j3.1, j3.2.1, j3.2.2.2.1, j3.2.2.2.2.1, j3.2.2.2.2.2.1, j3.2.2.2.2.2.2.1, j3.2.2.2.2.2.2.2.1, j3.2.2.2.2.2.2.2.2.1.set ((W64 (j3.2.2.2.2.2.2.2.2.2.2.2.1.1.1 - 1)).toNat) j3.2.2.2.2.2.2.2.2.2.2.2.1.2.2.2.2.2.2.2.2.2.2, j3.2.2.2.2.2.2.2.2.2.1, r3, j3.2.2.2.2.2.2.2.2.2.2.2.1, j3.2.2.2.2.2.2.2.2.2.2.2.2.1, j3.2.2.2.2.2.2.2.2.2.2.2.2.2.1, j3.2.2.2.2.2.2.2.2.2.2.2.2.2.2))
 else none
 else none
 else none
 else none
 else
 bif Nat.beq (List.length j3.2.2.2.2.2.2.2.2.2.2.2.2.1) (List.length j3.2.2.2.2.2.2.2.2.2.2.2.2.1) then
 bif Nat.beq (List.length j3.2.2.2.2.2.2.2.2.2.2.2.2.2.1) (List.length j3.2.2.2.2.2.2.2.2.2.2.2.2.2.1) then
 bif Nat.beq (List.length j3.2.2.2.2.2.2.2.2.2.2.2.2.2.2) (List.length j3.2.2.2.2.2.2.2.2.2.2.2.2.2.2) then
 some (j3.1, j3.2.1, j3.2.2.2.1, j3.2.2.2.2.1, j3.2.2.2.2.2.1, j3.2.2.2.2.2.2.1, j3.2.2.2.2.2.2.2.1, j3.2.2.2.2.2.2.2.2.1, j3.2.2.2.2.2.2.2.2.2.1, j3.2.2.2.2.2.2.2.2.2.2.1, j3.2.2.2.2.2.2.2.2.2.2.2.1, j3.2.2.2.2.2.2.2.2.2.2.2.2.1, j3.2.2.2.2.2.2.2.2.2.2.2.2.2.1, j3.2.2.2.2.2.2.2.2.2.2.2.2.2.2)
 else none
 else none
 else none).bind fun j4 =>
 bif eqI j4.2.2.2.2.2.2.2.2.2.2.1.2.2.1 9 then
 bif inI (W64 (j4.2.2.2.2.2.2.2.2.2.2.1.1.1 - 1)) 8 then
 (j4.2.2.2.2.2.2.2.2.1[(W64 (j4.2.2.2.2.2.2.2.2.2.2.1.1.1 - 1)).toNat]?).bind fun _x2 =>
 bif Nat.beq (List.length j4.2.2.2.2.2.2.2.2.2.2.2.1) (List.length j4.2.2.2.2.2.2.2.2.2.2.2.1) then
 bif Nat.beq (List.length j4.2.2.2.2.2.2.2.2.2.2.2.2.1) (List.length j4.2.2.2.2.2.2.2.2.2.2.2.2.1) then
 bif Nat.beq (List.length j4.2.2.2.2.2.2.2.2.2.2.2.2.2) (List.length j4.2.2.2.2.2.2.2.2.2.2.2.2.2) then
 some (.inl ((j4.1, W64 (j4.2.1 + 1), j4.2.2.1, j4.2.2.2.1, j4.2.2.2.2.1, j4.2.2.2.2.2.1, j4.2.2.2.2.2.2.1, j4.2.2.2.2.2.2.2.1, j4.2.2.2.2.2.2.2.2.1.set ((W64 (j4.2.2.2.2.2.2.2.2.2.2.1.1.1 - 1)).toNat) true, j4.2.2.2.2.2.2.2.2.2.1, j4.2.2.2.2.2.2.2.2.2.2.2.1, j4.2.2.2.2.2.2.2.2.2.2.2.2.1, j4.2.2.2.2.2.2.2.2.2.2.2.2.2)))
 else none
 else none
 else none
 else none
 else
 bif Nat.beq (List.length j4.2.2.2.2.2.2.2.2.2.2.2.1) (List.length j4.2.2.2.2.2.2.2.2.2.2.2.1) then
 bif Nat.beq (List.length j4.2.2.2.2.2.2.2.2.2.2.2.2.1) (List.length j4.2.2.2.2.2.2.2.2.2.2.2.2.1) then
 bif Nat.beq (List.length j4.2.2.2.2.2.2.2.2.2.2.2.2.2) (List.length j4.2.2.2.2.2.2.2.2.2.2.2.2.2) then
 some (.inl (j4.1, W64 (j4.2.1 + 1), j4.2.2.1, j4.2.2.2.1, j4.2.2.2.2.1, j4.2.2.2.2.2.1, j4.2.2.2.2.2.2.1, j4.2.2.2.2.2.2.2.1, j4.2.2.2.2.2.2.2.2.1, j4.2.2.2.2.2.2.2.2.2.1, j4.2.2.2.2.2.2.2.2.2.2.2.1, j4.2.2.2.2.2.2.2.2.2.2.2.2.1, j4.2.2.2.2.2.2.2.2.2.2.2.2.2))
 else none
 else none
 else none
 else
 bif Nat.beq (List.length t24) (List.length t24) then
 bif Nat.beq (List.length t25) (List.length t25) then
 bif Nat.beq (List.length t35) (List.length t35) then
 some (.inr (t2, t22, t23, t3, t32, t33, t34, t24, t25, t35))
 else none
 else none
 else none)
def z3y (s : zej) : Option (zej ⊕ zkl) := zei s.1 s.2.1 s.2.2.1 s.2.2.2.1 s.2.2.2.2.1 s.2.2.2.2.2.1 s.2.2.2.2.2.2.1 s.2.2.2.2.2.2.2.1 s.2.2.2.2.2.2.2.2.1 s.2.2.2.2.2.2.2.2.2.1 s.2.2.2.2.2.2.2.2.2.2.1 s.2.2.2.2.2.2.2.2.2.2.2.1 s.2.2.2.2.2.2.2.2.2.2.2.2
theorem zug : SoundD Try.prog (.loop (subC (bodyC Try.f10) [1, 1, 1, 0, 1, 0, 0])) (loopD z8c.xe z8g (loopC z3y)) :=
 z0w (S := z8c.xe) (X := z8g) zr8 (h := (.two .no (.two (.two .no (.join (fun _ => za4) (.join (fun _ => z8y) .no (.two (.two .no (.two .no (.two (.over (loopD z1v.xe z1t (loopC z1b))) (.two .no (.reg [5] []))))) .no)) (.join (fun _ => z9a) (.join (fun _ => z7s) .no .no) .no))) .no))) (z0p [.xs (fun _ => za4), .xs (fun _ => z8y), .den (.loop (subC (bodyC Try.f10) [1, 1, 1, 0, 1, 0, 0, 1, 0, 0, 1, 0, 1, 0, 1, 1, 0, 0, 0])) (loopD z1v.xe z1t (loopC z1b)), .xs (fun _ => z9a), .xs (fun _ => z7s)] (by kernel_rfl) ⟨(z2j zkr), (z2j zjy), zed, (z2j zjt), (z2j zif), trivial⟩) (z0c z8c) ztb z3y (fun s => by kernel_rfl)
def zzo : Shp := ⟨1, 0, [(0, .d c17)], []⟩
def z18x : XS := .one .ret zzo.xe
theorem z1f5 : z18x.OK := XS.one_ok (z0c zzo)
def zet (l : List T1) : Option ((T5)) :=
 (znp l).bind fun r =>
 (ze2 l).bind fun r2 =>
 bif Nat.beq 0 (List.length ([] : List T4)) then
 bif Nat.beq 0 (List.length ([] : List T2)) then
 bif Nat.beq 0 (List.length ([] : List T4)) then
 (loopC z3y (l, 0, List.replicate 8 (0 : Int), List.replicate 8 (0 : Int), List.replicate 8 false, r, r2, List.replicate 8 (0 : Int), List.replicate 8 false, List.replicate 8 (0 : Int), ([] : List T4), ([] : List T2), ([] : List T4))).bind fun o =>
 winK o.2.2.2.2.2.2.2.2.2 0 (List.length o.2.2.2.2.2.2.2.2.2) fun w =>
 some (o.2.2.2.1, w, o.2.2.2.2.1, o.2.2.2.2.2.1, o.2.2.2.2.2.2.1)
 else none
 else none
 else none
def zuq : Sig := ⟨10, [.d c3], [], 0, z18x⟩
def zsg (x : (List T1)) : Option ((T5)) := zet x
theorem z14r : FnOK Try.prog zuq zsg :=
 fn_ok zr8 (h := (.two .no (.two .no (.two .no (.two (.two .no (.over (loopD z8c.xe z8g (loopC z3y)))) .no))))) Try.func10 (z0p [.den (.loop (subC (bodyC Try.f10) [1, 1, 1, 0, 1, 0, 0])) (loopD z8c.xe z8g (loopC z3y))] (by kernel_rfl) ⟨zug, trivial⟩) (by kernel_rfl) z1f5 (fun x => by kernel_rfl)
def z1eu : Env := ⟨[], [], []⟩
theorem z1a8 : EnvsOK Try.prog z1eu := ⟨z0x _, z0u _, z0t _⟩
def zuj : Shp := ⟨1, 0, [(0, .wn 0 c6)], [.row 45 c6]⟩
def zz9 : XS := .one .ret zuj.xe
theorem z19l : zz9.OK := XS.one_ok (z0c zuj)
def zmu (t0 : List T2) : Option (((List T2))) :=
 nilK (List.length t0) fun q =>
 bif q then
 bif Nat.beq 0 (List.length ([] : List T2)) then
 some ([] : List T2)
 else none
 else
 appG (List.length ([] : List T2)) (List.length t0) 96 fun _ =>
 bif Nat.beq (List.length t0) (List.length t0) then
 some t0
 else none
def zyr : Sig := ⟨61, [.d c5], [], 0, zz9⟩
def zvo (x : (List T2)) : Option (((List T2))) := zmu x
theorem z1d4 : FnOK Try.prog zyr zvo :=
 fn_ok z1a8 (h := (.two .no (.two .no (.two (.reg [2] []) .no)))) Try.func61 (z0p [] (by kernel_rfl) trivial) (by kernel_rfl) z19l (fun x => by kernel_rfl)
def z1fe : Env := ⟨[], [], []⟩
theorem z1c5 : EnvsOK Try.prog z1fe := ⟨z0x _, z0u _, z0t _⟩
def zul : Shp := ⟨1, 0, [(0, .wn 0 c11)], [.row 85 c11]⟩
def zz8 : XS := .one .ret zul.xe
theorem z19i : zz8.OK := XS.one_ok (z0c zul)
def zi7 (t0 : List T3) : Option (((List T3))) :=
 nilK (List.length t0) fun q =>
 bif q then
 bif Nat.beq 0 (List.length ([] : List T3)) then
 some ([] : List T3)
 else none
 else
 appG (List.length ([] : List T3)) (List.length t0) 64 fun _ =>
 bif Nat.beq (List.length t0) (List.length t0) then
 some t0
 else none
def zp6 : Sig := ⟨62, [.d c10], [], 0, zz8⟩
def znb (x : (List T3)) : Option (((List T3))) := zi7 x
theorem zvj : FnOK Try.prog zp6 znb :=
 fn_ok z1c5 (h := (.two .no (.two .no (.two (.reg [2] []) .no)))) Try.func62 (z0p [] (by kernel_rfl) trivial) (by kernel_rfl) z19i (fun x => by kernel_rfl)
def z1mk : Env := ⟨[], [], []⟩
theorem z14e : EnvsOK Try.prog z1mk := ⟨z0x _, z0u _, z0t _⟩
def zof : Shp := ⟨22, 0, [], []⟩
def zoa : Shp := ⟨22, 0, [(4, .d .bool)], []⟩
def zc6 : XS := .or (.exit 0) zof.xe (.one .ret zoa.xe)
theorem zzk : zc6.OK := XS.or_ok (z0c zof) (XS.one_ok (z0c zoa))
def zc5 : Shp := ⟨22, 0, [(3, .pt 0 (.one (.arr 8 .leaf)) []), (7, .d c1), (8, .d (.int .i64))], [.var 25 (.d c1)]⟩
abbrev zj1 := (List Int) × Int × (List Int)
abbrev zre := (Unit) ⊕ (Bool)
def zjc (t7 : List Int) (t8 : Int) (base : List Int) : Option (zj1 ⊕ zre) :=
 bif ltI t8 8 then
 (idxI t7 t8).bind fun x =>
 bif ltI 0 x then
 bif inI t8 8 then
 (base[t8.toNat]?).bind fun x2 =>
 bif leI x x2 then
 some (.inr (.inr true))
 else
 some (.inl (t7, W64 (t8 + 1), base))
 else none
 else
 some (.inl (t7, W64 (t8 + 1), base))
 else
 some (.inr (.inl ()))
def z4z (s : zj1) : Option (zj1 ⊕ zre) := zjc s.1 s.2.1 s.2.2
theorem z12g : SoundD Try.prog (.loop (subC (bodyC Try.f65) [1, 0, 1, 0, 0])) (loopD zc5.xe zc6 (loopC z4z)) :=
 z0w (S := zc5.xe) (X := zc6) z14e (h := .no) (z0p [] (by kernel_rfl) trivial) (z0c zc5) zzk z4z (fun s => by kernel_rfl)
def z13z : Shp := ⟨1, 0, [(0, .d .bool)], []⟩
def z1ad : XS := .one .ret z13z.xe
theorem z1gl : z1ad.OK := XS.one_ok (z0c z13z)
def zq9 (t0 : List Int) (base : List Int) : Option ((Bool)) :=
 (loopC z4z (t0, 0, base)).bind fun o =>
 Sum.elim (fun y =>
 some false) (fun y2 =>
 some y2) o
def zxi : Sig := ⟨65, [.d c1, .d c1], [], 0, z1ad⟩
def zuz (x : (List Int) × (List Int)) : Option ((Bool)) := zq9 x.1 x.2
theorem z18n : FnOK Try.prog zxi zuz :=
 fn_ok z14e (h := (.two .no (.two (.two .no (.over (loopD zc5.xe zc6 (loopC z4z)))) .no))) Try.func65 (z0p [.den (.loop (subC (bodyC Try.f65) [1, 0, 1, 0, 0])) (loopD zc5.xe zc6 (loopC z4z))] (by kernel_rfl) ⟨z12g, trivial⟩) (by kernel_rfl) z1gl (fun x => by kernel_rfl)
def z1h8 : Env := ⟨[(entQ zxi zuz)], [], []⟩
theorem z1de : EnvsOK Try.prog z1h8 := ⟨z0o (z0q z18n) (z0x _), z0u _, z0t _⟩
def zvu : Shp := ⟨1, 0, [(0, .d .bool)], []⟩
def z11f : XS := .one .ret zvu.xe
theorem z1b7 : z11f.OK := XS.one_ok (z0c zvu)
def ze4 (x : T2) (t1 : List Int) : Option ((Bool)) :=
 (zq9 x.2.2.2.2 t1).bind fun r =>
 some r
def zru : Sig := ⟨64, [.d c6, .rf (.d c1)], [], 0, z11f⟩
def zp1 (x : T2 × (List Int)) : Option ((Bool)) := ze4 x.1 x.2
theorem zxj : FnOK Try.prog zru zp1 :=
 fn_ok z1de (h := .no) Try.func64 (z0p [] (by kernel_rfl) trivial) (by kernel_rfl) z1b7 (fun x => by kernel_rfl)
def z1b9 : Env := ⟨[(entQ zru zp1)], [], []⟩
theorem zqy : EnvsOK Try.prog z1b9 := ⟨z0o (z0q zxj) (z0x _), z0u _, z0t _⟩
def zi9 : Shp := ⟨19, 0, [], []⟩
def zhx : Shp := ⟨19, 0, [(4, .d (.int .i64))], []⟩
def z7g : XS := .or (.exit 0) zi9.xe (.one .ret zhx.xe)
theorem zs0 : z7g.OK := XS.or_ok (z0c zi9) (XS.one_ok (z0c zhx))
def z7h : Shp := ⟨19, 0, [(0, .d c5), (1, .fn 64 [.rf (.d c1)]), (7, .d (.int .i64)), (8, .d (.int .i64))], []⟩
abbrev ze5 := (List T2) × (List Int) × Int × Int
abbrev zjr := (Unit) ⊕ (Int)
def ze8 (t0 : List T2) (f : List Int) (t7 : Int) (t8 : Int) : Option (ze5 ⊕ zjr) :=
 bif ltI t8 t7 then
 (idxI t0 t8).bind fun x =>
 (ze4 x f).bind fun r =>
 bif r then
 some (.inr (.inr t8))
 else
 some (.inl (t0, f, t7, W64 (t8 + 1)))
 else
 some (.inr (.inl ()))
def z2v (s : ze5) : Option (ze5 ⊕ zjr) := ze8 s.1 s.2.1 s.2.2.1 s.2.2.2
theorem zsh : SoundD Try.prog (.loop (subC (bodyC Try.f85) [1, 0, 1, 0, 0])) (loopD z7h.xe z7g (loopC z2v)) :=
 z0w (S := z7h.xe) (X := z7g) zqy (h := .no) (z0p [] (by kernel_rfl) trivial) (z0c z7h) zs0 z2v (fun s => by kernel_rfl)
def zrb : Shp := ⟨1, 0, [(0, .d (.int .i64))], []⟩
def zu5 : XS := .one .ret zrb.xe
theorem z14u : zu5.OK := XS.one_ok (z0c zrb)
def zjh (t0 : List T2) (f : List Int) : Option ((Int)) :=
 z0s (List.length t0) (
 (loopC z2v (t0, f, (List.length t0 : Nat), 0)).bind fun o =>
 Sum.elim (fun y =>
 some (-1)) (fun y2 =>
 some y2) o)
def zuo : Sig := ⟨85, [.d c5, .fn 64 [.rf (.d c1)]], [], 0, zu5⟩
def zs9 (x : (List T2) × (List Int)) : Option ((Int)) := zjh x.1 x.2
theorem z19g : FnOK Try.prog zuo zs9 :=
 fn_ok zqy (h := (.two .no (.two (.two .no (.over (loopD z7h.xe z7g (loopC z2v)))) .no))) Try.func85 (z0p [.den (.loop (subC (bodyC Try.f85) [1, 0, 1, 0, 0])) (loopD z7h.xe z7g (loopC z2v))] (by kernel_rfl) ⟨zsh, trivial⟩) (by kernel_rfl) z14u (fun x => by kernel_rfl)
def z13f : Env := ⟨[(entQ zuo zs9), (entQ zru zp1)], [], []⟩
theorem zmv : EnvsOK Try.prog z13f := ⟨z0o (z0q z19g) (z0o (z0q zxj) (z0x _)), z0u _, z0t _⟩
def zdu : Shp := ⟨42, 2, [(0, .wn 0 c6), (5, .d (.int .i64))], [.row 45 c6, .var 25 (.d c1)]⟩
def z4d : XS := .one (.exit 0) zdu.xe
theorem zly : z4d.OK := XS.one_ok (z0c zdu)
def z4g : Shp := ⟨42, 2, [(0, .wn 0 c6), (1, .fn 64 [.pt 1 (.one (.arr 8 .leaf)) []]), (5, .d (.int .i64)), (6, .d (.int .i64))], [.row 45 c6, .var 25 (.d c1)]⟩
abbrev zas := Int × Int × (List T2) × (List Int)
abbrev zen := (Int × (List T2) × (List Int))
def zao (i : Int) (j : Int) (t0 : List T2) (del : List Int) : Option (zas ⊕ zen) :=
 z0s (List.length t0) (
 bif ltI j (List.length t0 : Nat) then
 bif inI j (List.length t0) then
 (t0[j.toNat]?).bind fun x =>
 (ze4 x del).bind fun r =>
 bif !r then
 bif inI i (List.length t0) then
 (t0[i.toNat]?).bind fun _x =>
 bif Nat.beq (List.length t0) (List.length (t0.set i.toNat x)) then
 some (.inl (W64 (i + 1), W64 (j + 1), t0.set i.toNat x, del))
 else none
 else none
 else
 bif Nat.beq (List.length t0) (List.length t0) then
 some (.inl (i, W64 (j + 1), t0, del))
 else none
 else none
 else
 bif Nat.beq (List.length t0) (List.length t0) then
 some (.inr (i, t0, del))
 else none)
def z1q (s : zas) : Option (zas ⊕ zen) := zao s.1 s.2.1 s.2.2.1 s.2.2.2
theorem zmg : SoundD Try.prog (.loop (subC (bodyC Try.f63) [1, 1, 1, 0, 1, 0, 0])) (loopD z4g.xe z4d (loopC z1q)) :=
 z0w (S := z4g.xe) (X := z4d) zmv (h := .no) (z0p [] (by kernel_rfl) trivial) (z0c z4g) zly z1q (fun s => by kernel_rfl)
def zmz : Shp := ⟨1, 2, [(0, .ws 0 c6)], [.row 45 c6, .var 25 (.d c1)]⟩
def zpp : XS := .one .ret zmz.xe
theorem zxl : zpp.OK := XS.one_ok (z0c zmz)
def zfd (t0 : List T2) (del : List Int) : Option (((List Bool) × (List T2) × (List Int))) :=
 winK t0 0 (List.length t0) fun w =>
 (zjh w del).bind fun r =>
 bif eqI r (-1) then
 some ((List.replicate (List.length t0) true), t0, del)
 else
 bif Nat.beq (List.length t0) (List.length t0) then
 (loopC z1q (r, W64 (r + 1), t0, del)).bind fun o =>
 bif subOk o.1 (List.length o.2.1 : Nat) (List.length o.2.1) then
 bif Nat.ble (addN o.1.toNat ((List.length o.2.1) - o.1.toNat)) (List.length o.2.1) then
 bif subOk 0 o.1 (List.length o.2.1) then
 some (((List.replicate o.1.toNat true), cpyL o.2.1 o.1.toNat ((List.length o.2.1) - o.1.toNat) (List.replicate ((List.length o.2.1) - o.1.toNat) (((0 : Int), (0 : Int)), ((0 : Int), (0 : Int)), ([] : List Int), ((0 : Int), (0 : Int)), List.replicate 8 (0 : Int))), o.2.2))
 else none
 else none
 else none
 else none
def zpg : Sig := ⟨63, [.wn 0 c6, .fn 64 [.pt 1 (.one (.arr 8 .leaf)) []]], [.row 45 c6, .var 25 (.d c1)], 2, zpp⟩
def zoh (x : (List T2) × (List Int)) : Option (((List Bool) × (List T2) × (List Int))) := zfd x.1 x.2
theorem z11y : FnOK Try.prog zpg zoh :=
 fn_ok zmv (h := (.two .no (.two .no (.two .no (.two (.two .no (.over (loopD z4g.xe z4d (loopC z1q)))) .no))))) Try.func63 (z0p [.den (.loop (subC (bodyC Try.f63) [1, 1, 1, 0, 1, 0, 0])) (loopD z4g.xe z4d (loopC z1q))] (by kernel_rfl) ⟨zmg, trivial⟩) (by kernel_rfl) zxl (fun x => by kernel_rfl)
def z1dk : Env := ⟨[(entQ zxi zuz)], [], []⟩
theorem z19h : EnvsOK Try.prog z1dk := ⟨z0o (z0q z18n) (z0x _), z0u _, z0t _⟩
def zsb : Shp := ⟨1, 0, [(0, .d .bool)], []⟩
def zvt : XS := .one .ret zsb.xe
theorem z16k : zvt.OK := XS.one_ok (z0c zsb)
def zbu (v : T3) (t1 : List Int) : Option ((Bool)) :=
 (zq9 v.2.2 t1).bind fun r =>
 some r
def zna : Sig := ⟨67, [.d c11, .rf (.d c1)], [], 0, zvt⟩
def zlx (x : T3 × (List Int)) : Option ((Bool)) := zbu x.1 x.2
theorem ztt : FnOK Try.prog zna zlx :=
 fn_ok z19h (h := .no) Try.func67 (z0p [] (by kernel_rfl) trivial) (by kernel_rfl) z16k (fun x => by kernel_rfl)
def z16u : Env := ⟨[(entQ zna zlx)], [], []⟩
theorem znl : EnvsOK Try.prog z16u := ⟨z0o (z0q ztt) (z0x _), z0u _, z0t _⟩
def zgc : Shp := ⟨19, 0, [], []⟩
def zgo : Shp := ⟨19, 0, [(4, .d (.int .i64))], []⟩
def z5y : XS := .or (.exit 0) zgc.xe (.one .ret zgo.xe)
theorem zq2 : z5y.OK := XS.or_ok (z0c zgc) (XS.one_ok (z0c zgo))
def z5u : Shp := ⟨19, 0, [(0, .d c10), (1, .fn 67 [.rf (.d c1)]), (7, .d (.int .i64)), (8, .d (.int .i64))], []⟩
abbrev zd0 := (List T3) × (List Int) × Int × Int
abbrev zi8 := (Unit) ⊕ (Int)
def zcy (t0 : List T3) (f : List Int) (t7 : Int) (t8 : Int) : Option (zd0 ⊕ zi8) :=
 bif ltI t8 t7 then
 (idxI t0 t8).bind fun x =>
 (zbu x f).bind fun r =>
 bif r then
 some (.inr (.inr t8))
 else
 some (.inl (t0, f, t7, W64 (t8 + 1)))
 else
 some (.inr (.inl ()))
def z2l (s : zd0) : Option (zd0 ⊕ zi8) := zcy s.1 s.2.1 s.2.2.1 s.2.2.2
theorem zqm : SoundD Try.prog (.loop (subC (bodyC Try.f86) [1, 0, 1, 0, 0])) (loopD z5u.xe z5y (loopC z2l)) :=
 z0w (S := z5u.xe) (X := z5y) znl (h := .no) (z0p [] (by kernel_rfl) trivial) (z0c z5u) zq2 z2l (fun s => by kernel_rfl)
def zog : Shp := ⟨1, 0, [(0, .d (.int .i64))], []⟩
def zrt : XS := .one .ret zog.xe
theorem zzj : zrt.OK := XS.one_ok (z0c zog)
def zgh (t0 : List T3) (f : List Int) : Option ((Int)) :=
 z0s (List.length t0) (
 (loopC z2l (t0, f, (List.length t0 : Nat), 0)).bind fun o =>
 Sum.elim (fun y =>
 some (-1)) (fun y2 =>
 some y2) o)
def zrs : Sig := ⟨86, [.d c10, .fn 67 [.rf (.d c1)]], [], 0, zrt⟩
def zph (x : (List T3) × (List Int)) : Option ((Int)) := zgh x.1 x.2
theorem z14z : FnOK Try.prog zrs zph :=
 fn_ok znl (h := (.two .no (.two (.two .no (.over (loopD z5u.xe z5y (loopC z2l)))) .no))) Try.func86 (z0p [.den (.loop (subC (bodyC Try.f86) [1, 0, 1, 0, 0])) (loopD z5u.xe z5y (loopC z2l))] (by kernel_rfl) ⟨zqm, trivial⟩) (by kernel_rfl) zzj (fun x => by kernel_rfl)
def z13r : Env := ⟨[(entQ zrs zph), (entQ zna zlx)], [], []⟩
theorem zn6 : EnvsOK Try.prog z13r := ⟨z0o (z0q z14z) (z0o (z0q ztt) (z0x _)), z0u _, z0t _⟩
def zdy : Shp := ⟨42, 2, [(0, .wn 0 c11), (5, .d (.int .i64))], [.row 85 c11, .var 25 (.d c1)]⟩
def z4b : XS := .one (.exit 0) zdy.xe
theorem zkw : z4b.OK := XS.one_ok (z0c zdy)
def z4f : Shp := ⟨42, 2, [(0, .wn 0 c11), (1, .fn 67 [.pt 1 (.one (.arr 8 .leaf)) []]), (5, .d (.int .i64)), (6, .d (.int .i64))], [.row 85 c11, .var 25 (.d c1)]⟩
abbrev zaf := Int × Int × (List T3) × (List Int)
abbrev zep := (Int × (List T3) × (List Int))
def zal (i : Int) (j : Int) (t0 : List T3) (del : List Int) : Option (zaf ⊕ zep) :=
 z0s (List.length t0) (
 bif ltI j (List.length t0 : Nat) then
 bif inI j (List.length t0) then
 (t0[j.toNat]?).bind fun x =>
 (zbu x del).bind fun r =>
 bif !r then
 bif inI i (List.length t0) then
 (t0[i.toNat]?).bind fun _x =>
 bif Nat.beq (List.length t0) (List.length (t0.set i.toNat x)) then
 some (.inl (W64 (i + 1), W64 (j + 1), t0.set i.toNat x, del))
 else none
 else none
 else
 bif Nat.beq (List.length t0) (List.length t0) then
 some (.inl (i, W64 (j + 1), t0, del))
 else none
 else none
 else
 bif Nat.beq (List.length t0) (List.length t0) then
 some (.inr (i, t0, del))
 else none)
def z1s (s : zaf) : Option (zaf ⊕ zep) := zal s.1 s.2.1 s.2.2.1 s.2.2.2
theorem zmm : SoundD Try.prog (.loop (subC (bodyC Try.f66) [1, 1, 1, 0, 1, 0, 0])) (loopD z4f.xe z4b (loopC z1s)) :=
 z0w (S := z4f.xe) (X := z4b) zn6 (h := .no) (z0p [] (by kernel_rfl) trivial) (z0c z4f) zkw z1s (fun s => by kernel_rfl)
def zmx : Shp := ⟨1, 2, [(0, .ws 0 c11)], [.row 85 c11, .var 25 (.d c1)]⟩
def zpq : XS := .one .ret zmx.xe
theorem zz4 : zpq.OK := XS.one_ok (z0c zmx)
def zff (t0 : List T3) (del : List Int) : Option (((List Bool) × (List T3) × (List Int))) :=
 winK t0 0 (List.length t0) fun w =>
 (zgh w del).bind fun r =>
 bif eqI r (-1) then
 some ((List.replicate (List.length t0) true), t0, del)
 else
 bif Nat.beq (List.length t0) (List.length t0) then
 (loopC z1s (r, W64 (r + 1), t0, del)).bind fun o =>
 bif subOk o.1 (List.length o.2.1 : Nat) (List.length o.2.1) then
 bif Nat.ble (addN o.1.toNat ((List.length o.2.1) - o.1.toNat)) (List.length o.2.1) then
 bif subOk 0 o.1 (List.length o.2.1) then
 some (((List.replicate o.1.toNat true), cpyL o.2.1 o.1.toNat ((List.length o.2.1) - o.1.toNat) (List.replicate ((List.length o.2.1) - o.1.toNat) (((0 : Int), (0 : Int)), ([] : List Int), List.replicate 8 (0 : Int))), o.2.2))
 else none
 else none
 else none
 else none
def zpb : Sig := ⟨66, [.wn 0 c11, .fn 67 [.pt 1 (.one (.arr 8 .leaf)) []]], [.row 85 c11, .var 25 (.d c1)], 2, zpq⟩
def zo7 (x : (List T3) × (List Int)) : Option (((List Bool) × (List T3) × (List Int))) := zff x.1 x.2
theorem z12d : FnOK Try.prog zpb zo7 :=
 fn_ok zn6 (h := (.two .no (.two .no (.two .no (.two (.two .no (.over (loopD z4f.xe z4b (loopC z1s)))) .no))))) Try.func66 (z0p [.den (.loop (subC (bodyC Try.f66) [1, 1, 1, 0, 1, 0, 0])) (loopD z4f.xe z4b (loopC z1s))] (by kernel_rfl) ⟨zmm, trivial⟩) (by kernel_rfl) zz4 (fun x => by kernel_rfl)
def z1hj : Env := ⟨[], [(entP zp6 znb), (entP zpb zo7)], []⟩
theorem z1d3 : EnvsOK Try.prog z1hj := ⟨z0x _, zdg (zi2 zvj) (zdg (zi2 z12d) (z0u _)), z0t _⟩
def zvk : Shp := ⟨1, 0, [(0, .d c10)], []⟩
def z11j : XS := .one .ret zvk.xe
theorem z1bk : z11j.OK := XS.one_ok (z0c zvk)
def zot (l : List T3) (base : List Int) : Option (((List T3))) :=
 (zi7 l).bind fun r =>
 bif Nat.beq (List.length r) (List.length r) then
 (zff r base).bind fun r2 =>
 winK r2.2.1 0 (lenW r2.1) fun w =>
 some w
 else none
def zzn : Sig := ⟨37, [.d c10, .d c1], [], 0, z11j⟩
def zxn (x : (List T3) × (List Int)) : Option (((List T3))) := zot x.1 x.2
theorem z1fk : FnOK Try.prog zzn zxn :=
 fn_ok z1d3 (h := .no) Try.func37 (z0p [] (by kernel_rfl) trivial) (by kernel_rfl) z1bk (fun x => by kernel_rfl)
def z1go : Env := ⟨[], [(entP zyr zvo), (entP zp6 znb)], []⟩
theorem zvn : EnvsOK Try.prog z1go := ⟨z0x _, zdg (zi2 z1d4) (zdg (zi2 zvj) (z0u _)), z0t _⟩
def zfi : Shp := ⟨31, 0, [(2, .pt 0 r15 []), (3, .pt 1 r15 [])], [.var 33 (.ag [.d c1, .wn 2 c14, .wn 3 c6, .d c16, .d (.arr 8 .bool)]), .var 33 (.ag [.d c1, .wn 4 c14, .wn 5 c6, .d c16, .d (.arr 8 .bool)]), .row 49 c14, .row 45 c6, .row 49 c14, .row 45 c6]⟩
def z5o : XS := .one (.exit 0) zfi.xe
theorem zox : z5o.OK := XS.one_ok (z0c zfi)
def z5r : Shp := ⟨31, 0, [(2, .pt 0 r15 []), (3, .pt 1 r15 []), (13, .d c18), (14, .d (.int .i64)), (15, .d (.int .i64))], [.var 33 (.ag [.d c1, .wn 2 c14, .wn 3 c6, .d c16, .d (.arr 8 .bool)]), .var 33 (.ag [.d c1, .wn 4 c14, .wn 5 c6, .d c16, .d (.arr 8 .bool)]), .row 49 c14, .row 45 c6, .row 49 c14, .row 45 c6]⟩
abbrev zcc := (List T4) × Int × Int × (List Int) × (List Int) × (List Bool) × (List Int) × (List Int) × (List Bool) × (List T4) × (List T2) × (List T4) × (List T2)
abbrev zhl := ((List Int) × (List Int) × (List Bool) × (List Int) × (List Int) × (List Bool) × (List T4) × (List T2) × (List T4) × (List T2))
def zcd (t13 : List T4) (t14 : Int) (t15 : Int) (t2 : List Int) (t22 : List Int) (t23 : List Bool) (out : List Int) (out2 : List Int) (out3 : List Bool) (t24 : List T4) (t25 : List T2) (out4 : List T4) (out5 : List T2) : Option (zcc ⊕ zhl) :=
 bif ltI t15 t14 then
 (idxI t13 t15).bind fun x =>
 (zi7 x.2.2.2.2.2).bind fun r =>
 winK r 0 (List.length r) fun w =>
 bif Nat.beq (List.length out4) (List.length out4) then
 appG (List.length out4) (List.length ([(x.1, x.2.1, x.2.2.1, x.2.2.2.1, x.2.2.2.2.1, w)] : List T4)) 112 fun _ =>
 bif Nat.beq (List.length t24) (List.length t24) then
 bif Nat.beq (List.length t25) (List.length t25) then
 bif Nat.beq (List.length (out4 ++ ([(x.1, x.2.1, x.2.2.1, x.2.2.2.1, x.2.2.2.2.1, w)] : List T4))) (List.length (out4 ++ ([(x.1, x.2.1, x.2.2.1, x.2.2.2.1, x.2.2.2.2.1, w)] : List T4))) then
 bif Nat.beq (List.length out5) (List.length out5) then
 some (.inl (t13, t14, W64 (t15 + 1), t2, t22, t23, out, out2, out3, t24, t25, out4 ++ ([(x.1, x.2.1, x.2.2.1, x.2.2.2.1, x.2.2.2.2.1, w)] : List T4), out5))
 else none
 else none
 else none
 else none
 else none
 else
 bif Nat.beq (List.length t24) (List.length t24) then
 bif Nat.beq (List.length t25) (List.length t25) then
 bif Nat.beq (List.length out4) (List.length out4) then
 bif Nat.beq (List.length out5) (List.length out5) then
 some (.inr (t2, t22, t23, out, out2, out3, t24, t25, out4, out5))
 else none
 else none
 else none
 else none
def z2x (s : zcc) : Option (zcc ⊕ zhl) := zcd s.1 s.2.1 s.2.2.1 s.2.2.2.1 s.2.2.2.2.1 s.2.2.2.2.2.1 s.2.2.2.2.2.2.1 s.2.2.2.2.2.2.2.1 s.2.2.2.2.2.2.2.2.1 s.2.2.2.2.2.2.2.2.2.1 s.2.2.2.2.2.2.2.2.2.2.1 s.2.2.2.2.2.2.2.2.2.2.2.1 s.2.2.2.2.2.2.2.2.2.2.2.2
theorem zq6 : SoundD Try.prog (.loop (subC (bodyC Try.f35) [1, 1, 1, 1, 0, 1, 0, 0])) (loopD z5r.xe z5o (loopC z2x)) :=
 z0w (S := z5r.xe) (X := z5o) zvn (h := (.two .no (.two .no (.two (.two .no (.two (.reg [4] []) .no)) .no)))) (z0p [] (by kernel_rfl) trivial) (z0c z5r) zox z2x (fun s => by kernel_rfl)
def zvv : Shp := ⟨1, 0, [(0, .ag [.d c1, .wn 0 c14, .wn 1 c6, .d c16, .d (.arr 8 .bool)])], [.row 49 c14, .row 45 c6]⟩
def z10a : XS := .one .ret zvv.xe
theorem z1cf : z10a.OK := XS.one_ok (z0c zvv)
def zoo (t0 : T5) : Option (((List Int) × (List Int) × (List Bool) × (List T4) × (List T2))) :=
 (zmu t0.2.2.1).bind fun r =>
 z0s (List.length t0.2.1) (
 bif Nat.beq 0 (List.length ([] : List T4)) then
 bif Nat.beq 0 (List.length ([] : List T2)) then
 bif Nat.beq 0 (List.length ([] : List T4)) then
 bif Nat.beq (List.length r) (List.length r) then
 (loopC z2x (t0.2.1, (List.length t0.2.1 : Nat), 0, List.replicate 8 (0 : Int), List.replicate 8 (0 : Int), List.replicate 8 false, t0.1, t0.2.2.2.1, t0.2.2.2.2, ([] : List T4), ([] : List T2), ([] : List T4), r)).bind fun o =>
 bif Nat.beq (List.length o.2.2.2.2.2.2.2.2.1) (List.length o.2.2.2.2.2.2.2.2.1) then
 bif Nat.beq (List.length o.2.2.2.2.2.2.2.2.2) (List.length o.2.2.2.2.2.2.2.2.2) then
 some (o.2.2.2.1, o.2.2.2.2.1, o.2.2.2.2.2.1, o.2.2.2.2.2.2.2.2.1, o.2.2.2.2.2.2.2.2.2)
 else none
 else none
 else none
 else none
 else none
 else none)
def zzu : Sig := ⟨35, [.d c17], [], 0, z10a⟩
def zxe (x : T5) : Option (((List Int) × (List Int) × (List Bool) × (List T4) × (List T2))) := zoo x
theorem z1g2 : FnOK Try.prog zzu zxe :=
 fn_ok zvn (h := (.two .no (.two (.reg [1000002] []) (.two .no (.two .no (.two (.two .no (.over (loopD z5r.xe z5o (loopC z2x)))) .no)))))) Try.func35 (z0p [.den (.loop (subC (bodyC Try.f35) [1, 1, 1, 1, 0, 1, 0, 0])) (loopD z5r.xe z5o (loopC z2x))] (by kernel_rfl) ⟨zq6, trivial⟩) (by kernel_rfl) z1cf (fun x => by kernel_rfl)
def z1g0 : Env := ⟨[], [], []⟩
theorem z19q : EnvsOK Try.prog z1g0 := ⟨z0x _, z0u _, z0t _⟩
def zuf : Shp := ⟨1, 1, [(0, .wn 1 c6)], [.row 45 c6, .row 45 c6]⟩
def zym : XS := .one .ret zuf.xe
theorem z19a : zym.OK := XS.one_ok (z0c zuf)
def zmc (t0 : List T2) : Option (((List T2) × (List T2))) :=
 nilK (List.length t0) fun q =>
 bif q then
 bif Nat.beq 0 (List.length ([] : List T2)) then
 some (t0, ([] : List T2))
 else none
 else
 winK t0 0 (List.length t0) fun w =>
 appG (List.length ([] : List T2)) (List.length w) 96 fun _ =>
 bif Nat.beq (List.length w) (List.length w) then
 some (t0, w)
 else none
def zx7 : Sig := ⟨61, [.wn 0 c6], [.row 45 c6], 1, zym⟩
def zve (x : (List T2)) : Option (((List T2) × (List T2))) := zmc x
theorem z1d7 : FnOK Try.prog zx7 zve :=
 fn_ok z19q (h := (.two .no (.two .no (.two (.reg [2] []) .no)))) Try.func61 (z0p [] (by kernel_rfl) trivial) (by kernel_rfl) z19a (fun x => by kernel_rfl)
def z1h7 : Env := ⟨[], [(entP zx7 zve), (entP zpg zoh)], []⟩
theorem z1db : EnvsOK Try.prog z1h7 := ⟨z0x _, zdg (zi2 z1d7) (zdg (zi2 z11y) (z0u _)), z0t _⟩
def zvs : Shp := ⟨1, 1, [(0, .ws 1 c6)], [.row 45 c6, .row 45 c6]⟩
def z10z : XS := .one .ret zvs.xe
theorem z1b2 : z10z.OK := XS.one_ok (z0c zvs)
def zoq (base : List Int) (l : List T2) : Option (((List Bool) × (List T2) × (List T2))) :=
 bif Nat.beq (List.length l) (List.length l) then
 (zmc l).bind fun r =>
 bif Nat.beq (List.length r.2) (List.length r.2) then
 (zfd r.2 base).bind fun r2 =>
 some ((List.replicate (lenW r2.1) true), r.1, r2.2.1)
 else none
 else none
def zzr : Sig := ⟨36, [.wn 0 c6, .d c1], [.row 45 c6], 1, z10z⟩
def zxh (x : (List Int) × (List T2)) : Option (((List Bool) × (List T2) × (List T2))) := zoq x.1 x.2
theorem z1ez : FnOK Try.prog zzr zxh :=
 fn_ok z1db (h := .no) Try.func36 (z0p [] (by kernel_rfl) trivial) (by kernel_rfl) z1b2 (fun x => by kernel_rfl)
def z1t7 : Env := ⟨[], [], []⟩
theorem z1pq : EnvsOK Try.prog z1t7 := ⟨z0x _, z0u _, z0t _⟩
def z1dn : Shp := ⟨1, 0, [(0, .d (.int .u32))], []⟩
def z1jy : XS := .one .ret z1dn.xe
theorem z1mc : z1jy.OK := XS.one_ok (z0c z1dn)
def z1cx (v : List Int) (rep : Int) : Option ((Int)) :=
 bif ltI rep 1 then
 some 0
 else
 bif ltI 8 rep then
 some 0
 else
 bif inI (W64 (rep - 1)) 8 then
 (v[(W64 (rep - 1)).toNat]?).bind fun x =>
 some x
 else none
def z1kt : Sig := ⟨87, [.d c1, .d (.int .i64)], [], 0, z1jy⟩
def z1in (x : (List Int) × Int) : Option ((Int)) := z1cx x.1 x.2
theorem z1rt : FnOK Try.prog z1kt z1in :=
 fn_ok z1pq (h := .no) Try.func87 (z0p [] (by kernel_rfl) trivial) (by kernel_rfl) z1mc (fun x => by kernel_rfl)
def z1s9 : Env := ⟨[(entQ z1kt z1in)], [], []⟩
theorem z1pl : EnvsOK Try.prog z1s9 := ⟨z0o (z0q z1rt) (z0x _), z0u _, z0t _⟩
def z1dl : Shp := ⟨1, 0, [(0, .d .bool)], []⟩
def z1ko : XS := .one .ret z1dl.xe
theorem z1o9 : z1ko.OK := XS.one_ok (z0c z1dl)
def zx2 (v : List Int) (id : T0) : Option ((Bool)) :=
 bif leI 1 id.2 then
 (z1cx v id.1).bind fun r =>
 some (leI id.2 r)
 else
 some false
def z1ca : Sig := ⟨69, [.d c1, .d c0], [], 0, z1ko⟩
def z16q (x : (List Int) × T0) : Option ((Bool)) := zx2 x.1 x.2
theorem z1hq : FnOK Try.prog z1ca z16q :=
 fn_ok z1pl (h := .no) Try.func69 (z0p [] (by kernel_rfl) trivial) (by kernel_rfl) z1o9 (fun x => by kernel_rfl)
def z1ud : Env := ⟨[], [], []⟩
theorem z1du : EnvsOK Try.prog z1ud := ⟨z0x _, z0u _, z0t _⟩
def zsd : Shp := ⟨18, 0, [], []⟩
def zs7 : Shp := ⟨18, 0, [(4, .d .bool)], []⟩
def zee : XS := .or (.exit 0) zsd.xe (.one .ret zs7.xe)
theorem z17d : zee.OK := XS.or_ok (z0c zsd) (XS.one_ok (z0c zs7))
def zea : Shp := ⟨18, 0, [(3, .pt 0 (.one (.arr 8 .leaf)) []), (7, .d c1), (8, .d (.int .i64))], [.var 25 (.d c1)]⟩
abbrev znd := (List Int) × Int × (List Int)
abbrev zvw := (Unit) ⊕ (Bool)
def znf (t7 : List Int) (t8 : Int) (b : List Int) : Option (znd ⊕ zvw) :=
 bif ltI t8 8 then
 (idxI t7 t8).bind fun x =>
 bif inI t8 8 then
 (b[t8.toNat]?).bind fun x2 =>
 bif ltI x2 x then
 some (.inr (.inr false))
 else
 some (.inl (t7, W64 (t8 + 1), b))
 else none
 else
 some (.inr (.inl ()))
def z7r (s : znd) : Option (znd ⊕ zvw) := znf s.1 s.2.1 s.2.2
theorem z19e : SoundD Try.prog (.loop (subC (bodyC Try.f51) [1, 0, 1, 0, 0])) (loopD zea.xe zee (loopC z7r)) :=
 z0w (S := zea.xe) (X := zee) z1du (h := .no) (z0p [] (by kernel_rfl) trivial) (z0c zea) z17d z7r (fun s => by kernel_rfl)
def z1eq : Shp := ⟨1, 0, [(0, .d .bool)], []⟩
def z1l0 : XS := .one .ret z1eq.xe
theorem z1n7 : z1l0.OK := XS.one_ok (z0c z1eq)
def z1cv (a : List Int) (b : List Int) : Option ((Bool)) :=
 (loopC z7r (a, 0, b)).bind fun o =>
 Sum.elim (fun y =>
 some true) (fun y2 =>
 some y2) o
def z1kn : Sig := ⟨51, [.d c1, .d c1], [], 0, z1l0⟩
def z1i2 (x : (List Int) × (List Int)) : Option ((Bool)) := z1cv x.1 x.2
theorem z1r1 : FnOK Try.prog z1kn z1i2 :=
 fn_ok z1du (h := (.two .no (.two (.two .no (.over (loopD zea.xe zee (loopC z7r)))) .no))) Try.func51 (z0p [.den (.loop (subC (bodyC Try.f51) [1, 0, 1, 0, 0])) (loopD zea.xe zee (loopC z7r))] (by kernel_rfl) ⟨z19e, trivial⟩) (by kernel_rfl) z1n7 (fun x => by kernel_rfl)
def z1it : Env := ⟨[], [], []⟩
theorem z1f6 : EnvsOK Try.prog z1it := ⟨z0x _, z0u _, z0t _⟩
def zy8 : Shp := ⟨1, 0, [(0, .d .bool)], []⟩
def z13e : XS := .one .ret zy8.xe
theorem z1da : z13e.OK := XS.one_ok (z0c zy8)
def zqd (v : T3) : Option ((Bool)) :=
 some (eqU c1 v.2.2 (List.replicate 8 (0 : Int)))
def zt6 : Sig := ⟨46, [.d c11], [], 0, z13e⟩
def zrg (x : T3) : Option ((Bool)) := zqd x
theorem z10v : FnOK Try.prog zt6 zrg :=
 fn_ok z1f6 (h := .no) Try.func46 (z0p [] (by kernel_rfl) trivial) (by kernel_rfl) z1da (fun x => by kernel_rfl)
def z1h9 : Env := ⟨[(entQ zt6 zrg)], [], []⟩
theorem zvb : EnvsOK Try.prog z1h9 := ⟨z0o (z0q z10v) (z0x _), z0u _, z0t _⟩
def zih : Shp := ⟨20, 0, [(3, .wn 0 c11)], [.row 85 c11]⟩
def z8b : XS := .one (.exit 0) zih.xe
theorem zsl : z8b.OK := XS.one_ok (z0c zih)
def z8e : Shp := ⟨20, 0, [(3, .wn 0 c11), (6, .d c10), (7, .d (.int .i64)), (8, .d (.int .i64))], [.row 85 c11]⟩
abbrev zeg := (List T3) × Int × Int × (List T3)
abbrev zki := ((List T3))
def zef (t6 : List T3) (t7 : Int) (t8 : Int) (out : List T3) : Option (zeg ⊕ zki) :=
 bif ltI t8 t7 then
 (idxI t6 t8).bind fun x =>
 (zqd x).bind fun r =>
 bif r then
 bif Nat.beq (List.length out) (List.length out) then
 appG (List.length out) (List.length ([x] : List T3)) 64 fun _ =>
 bif Nat.beq (List.length (out ++ ([x] : List T3))) (List.length (out ++ ([x] : List T3))) then
 some (.inl (t6, t7, W64 (t8 + 1), out ++ ([x] : List T3)))
 else none
 else none
 else
 bif Nat.beq (List.length out) (List.length out) then
 some (.inl (t6, t7, W64 (t8 + 1), out))
 else none
 else
 bif Nat.beq (List.length out) (List.length out) then
 some (.inr out)
 else none
def z3z (s : zeg) : Option (zeg ⊕ zki) := zef s.1 s.2.1 s.2.2.1 s.2.2.2
theorem zu8 : SoundD Try.prog (.loop (subC (bodyC Try.f89) [1, 1, 0, 1, 0, 0])) (loopD z8e.xe z8b (loopC z3z)) :=
 z0w (S := z8e.xe) (X := z8b) zvb (h := .no) (z0p [] (by kernel_rfl) trivial) (z0c z8e) zsl z3z (fun s => by kernel_rfl)
def zvf : Shp := ⟨1, 0, [(0, .d c10)], []⟩
def z10d : XS := .one .ret zvf.xe
theorem z1c8 : z10d.OK := XS.one_ok (z0c zvf)
def zos (l : List T3) : Option (((List T3))) :=
 z0s (List.length l) (
 bif Nat.beq 0 (List.length ([] : List T3)) then
 (loopC z3z (l, (List.length l : Nat), 0, ([] : List T3))).bind fun o =>
 winK o 0 (List.length o) fun w =>
 some w
 else none)
def z11g : Sig := ⟨89, [.d c10], [], 0, z10d⟩
def zyl (x : (List T3)) : Option (((List T3))) := zos x
theorem z1ff : FnOK Try.prog z11g zyl :=
 fn_ok zvb (h := (.two .no (.two .no (.two (.two .no (.over (loopD z8e.xe z8b (loopC z3z)))) .no)))) Try.func89 (z0p [.den (.loop (subC (bodyC Try.f89) [1, 1, 0, 1, 0, 0])) (loopD z8e.xe z8b (loopC z3z))] (by kernel_rfl) ⟨zu8, trivial⟩) (by kernel_rfl) z1c8 (fun x => by kernel_rfl)
def z1a7 : Env := ⟨[(entQ z1ca z16q)], [], []⟩
theorem z15w : EnvsOK Try.prog z1a7 := ⟨z0o (z0q z1hq) (z0x _), z0u _, z0t _⟩
def zqp : Shp := ⟨1, 0, [(0, .d .bool)], []⟩
def ztk : XS := .one .ret zqp.xe
theorem z13h : ztk.OK := XS.one_ok (z0c zqp)
def zjb (v : T3) (t1 : List Int) : Option ((Bool)) :=
 (zx2 t1 v.1).bind fun r =>
 some (!r)
def zud : Sig := ⟨90, [.d c11, .rf (.d c1)], [], 0, ztk⟩
def zs6 (x : T3 × (List Int)) : Option ((Bool)) := zjb x.1 x.2
theorem z19f : FnOK Try.prog zud zs6 :=
 fn_ok z15w (h := .no) Try.func90 (z0p [] (by kernel_rfl) trivial) (by kernel_rfl) z13h (fun x => by kernel_rfl)
def z16s : Env := ⟨[(entQ zud zs6)], [], []⟩
theorem zo4 : EnvsOK Try.prog z16s := ⟨z0o (z0q z19f) (z0x _), z0u _, z0t _⟩
def zg8 : Shp := ⟨19, 0, [], []⟩
def zgf : Shp := ⟨19, 0, [(4, .d (.int .i64))], []⟩
def z6a : XS := .or (.exit 0) zg8.xe (.one .ret zgf.xe)
theorem zq5 : z6a.OK := XS.or_ok (z0c zg8) (XS.one_ok (z0c zgf))
def z6c : Shp := ⟨19, 0, [(0, .d c10), (1, .fn 90 [.rf (.d c1)]), (7, .d (.int .i64)), (8, .d (.int .i64))], []⟩
abbrev zcz := (List T3) × (List Int) × Int × Int
abbrev zhv := (Unit) ⊕ (Int)
def zcw (t0 : List T3) (f : List Int) (t7 : Int) (t8 : Int) : Option (zcz ⊕ zhv) :=
 bif ltI t8 t7 then
 (idxI t0 t8).bind fun x =>
 (zjb x f).bind fun r =>
 bif r then
 some (.inr (.inr t8))
 else
 some (.inl (t0, f, t7, W64 (t8 + 1)))
 else
 some (.inr (.inl ()))
def z2m (s : zcz) : Option (zcz ⊕ zhv) := zcw s.1 s.2.1 s.2.2.1 s.2.2.2
theorem zqj : SoundD Try.prog (.loop (subC (bodyC Try.f86) [1, 0, 1, 0, 0])) (loopD z6c.xe z6a (loopC z2m)) :=
 z0w (S := z6c.xe) (X := z6a) zo4 (h := .no) (z0p [] (by kernel_rfl) trivial) (z0c z6c) zq5 z2m (fun s => by kernel_rfl)
def znw : Shp := ⟨1, 0, [(0, .d (.int .i64))], []⟩
def zrf : XS := .one .ret znw.xe
theorem zzh : zrf.OK := XS.one_ok (z0c znw)
def zg2 (t0 : List T3) (f : List Int) : Option ((Int)) :=
 z0s (List.length t0) (
 (loopC z2m (t0, f, (List.length t0 : Nat), 0)).bind fun o =>
 Sum.elim (fun y =>
 some (-1)) (fun y2 =>
 some y2) o)
def zrp : Sig := ⟨86, [.d c10, .fn 90 [.rf (.d c1)]], [], 0, zrf⟩
def zpi (x : (List T3) × (List Int)) : Option ((Int)) := zg2 x.1 x.2
theorem z14n : FnOK Try.prog zrp zpi :=
 fn_ok zo4 (h := (.two .no (.two (.two .no (.over (loopD z6c.xe z6a (loopC z2m)))) .no))) Try.func86 (z0p [.den (.loop (subC (bodyC Try.f86) [1, 0, 1, 0, 0])) (loopD z6c.xe z6a (loopC z2m))] (by kernel_rfl) ⟨zqj, trivial⟩) (by kernel_rfl) zzh (fun x => by kernel_rfl)
def z14g : Env := ⟨[(entQ zrp zpi)], [], []⟩
theorem zzc : EnvsOK Try.prog z14g := ⟨z0o (z0q z14n) (z0x _), z0u _, z0t _⟩
def zn4 : Shp := ⟨1, 0, [(0, .d .bool)], []⟩
def zq1 : XS := .one .ret zn4.xe
theorem zyg : zq1.OK := XS.one_ok (z0c zn4)
def zkc (t0 : List T3) (f : List Int) : Option ((Bool)) :=
 (zg2 t0 f).bind fun r =>
 some (leI 0 r)
def zp8 : Sig := ⟨88, [.d c10, .fn 90 [.rf (.d c1)]], [], 0, zq1⟩
def zo3 (x : (List T3) × (List Int)) : Option ((Bool)) := zkc x.1 x.2
theorem z11u : FnOK Try.prog zp8 zo3 :=
 fn_ok zzc (h := .no) Try.func88 (z0p [] (by kernel_rfl) trivial) (by kernel_rfl) zyg (fun x => by kernel_rfl)
def z1ev : Env := ⟨[(entQ z11g zyl), (entQ zp8 zo3)], [], []⟩
theorem z1bs : EnvsOK Try.prog z1ev := ⟨z0o (z0q z1ff) (z0o (z0q z11u) (z0x _)), z0u _, z0t _⟩
def zuk : Shp := ⟨1, 0, [(0, .d .bool)], []⟩
def zyj : XS := .one .ret zuk.xe
theorem z19d : zyj.OK := XS.one_ok (z0c zuk)
def zmd (l : List T3) (seen : List Int) : Option ((Bool)) :=
 (zos l).bind fun r =>
 (zkc r seen).bind fun r2 =>
 some r2
def zxa : Sig := ⟨70, [.d c10, .d c1], [], 0, zyj⟩
def zvl (x : (List T3) × (List Int)) : Option ((Bool)) := zmd x.1 x.2
theorem z1d2 : FnOK Try.prog zxa zvl :=
 fn_ok z1bs (h := .no) Try.func70 (z0p [] (by kernel_rfl) trivial) (by kernel_rfl) z19d (fun x => by kernel_rfl)
def z1g8 : Env := ⟨[], [], []⟩
theorem z1bx : EnvsOK Try.prog z1g8 := ⟨z0x _, z0u _, z0t _⟩
def ztx : Shp := ⟨1, 0, [(0, .d .bool)], []⟩
def zza : XS := .one .ret ztx.xe
theorem z19k : zza.OK := XS.one_ok (z0c ztx)
def zmf (x : T2) (t1 : T4) : Option ((Bool)) :=
 bif eqU c0 x.2.2.2.1 t1.1 then
 some true
 else
 some (eqU c0 x.2.1 t1.1)
def zxu : Sig := ⟨72, [.d c6, .rf (.d c14)], [], 0, zza⟩
def zvx (x : T2 × T4) : Option ((Bool)) := zmf x.1 x.2
theorem z1dj : FnOK Try.prog zxu zvx :=
 fn_ok z1bx (h := .no) Try.func72 (z0p [] (by kernel_rfl) trivial) (by kernel_rfl) z19k (fun x => by kernel_rfl)
def z15s : Env := ⟨[(entQ zxu zvx)], [], []⟩
theorem znv : EnvsOK Try.prog z15s := ⟨z0o (z0q z1dj) (z0x _), z0u _, z0t _⟩
def zgm : Shp := ⟨19, 0, [], []⟩
def zg4 : Shp := ⟨19, 0, [(4, .d (.int .i64))], []⟩
def z5t : XS := .or (.exit 0) zgm.xe (.one .ret zg4.xe)
theorem zq7 : z5t.OK := XS.or_ok (z0c zgm) (XS.one_ok (z0c zg4))
def z5z : Shp := ⟨19, 0, [(0, .d c5), (1, .fn 72 [.rf (.d c14)]), (7, .d (.int .i64)), (8, .d (.int .i64))], []⟩
abbrev zd3 := (List T2) × T4 × Int × Int
abbrev zhw := (Unit) ⊕ (Int)
def zcx (t0 : List T2) (f : T4) (t7 : Int) (t8 : Int) : Option (zd3 ⊕ zhw) :=
 bif ltI t8 t7 then
 (idxI t0 t8).bind fun x =>
 (zmf x f).bind fun r =>
 bif r then
 some (.inr (.inr t8))
 else
 some (.inl (t0, f, t7, W64 (t8 + 1)))
 else
 some (.inr (.inl ()))
def z2r (s : zd3) : Option (zd3 ⊕ zhw) := zcx s.1 s.2.1 s.2.2.1 s.2.2.2
theorem zq8 : SoundD Try.prog (.loop (subC (bodyC Try.f85) [1, 0, 1, 0, 0])) (loopD z5z.xe z5t (loopC z2r)) :=
 z0w (S := z5z.xe) (X := z5t) znv (h := .no) (z0p [] (by kernel_rfl) trivial) (z0c z5z) zq7 z2r (fun s => by kernel_rfl)
def zo2 : Shp := ⟨1, 0, [(0, .d (.int .i64))], []⟩
def zqq : XS := .one .ret zo2.xe
theorem zzd : zqq.OK := XS.one_ok (z0c zo2)
def zga (t0 : List T2) (f : T4) : Option ((Int)) :=
 z0s (List.length t0) (
 (loopC z2r (t0, f, (List.length t0 : Nat), 0)).bind fun o =>
 Sum.elim (fun y =>
 some (-1)) (fun y2 =>
 some y2) o)
def zrm : Sig := ⟨85, [.d c5, .fn 72 [.rf (.d c14)]], [], 0, zqq⟩
def zpm (x : (List T2) × T4) : Option ((Int)) := zga x.1 x.2
theorem z12w : FnOK Try.prog zrm zpm :=
 fn_ok znv (h := (.two .no (.two (.two .no (.over (loopD z5z.xe z5t (loopC z2r)))) .no))) Try.func85 (z0p [.den (.loop (subC (bodyC Try.f85) [1, 0, 1, 0, 0])) (loopD z5z.xe z5t (loopC z2r))] (by kernel_rfl) ⟨zq8, trivial⟩) (by kernel_rfl) zzd (fun x => by kernel_rfl)
def zzl : Env := ⟨[(entQ zrm zpm)], [], []⟩
theorem zwr : EnvsOK Try.prog zzl := ⟨z0o (z0q z12w) (z0x _), z0u _, z0t _⟩
def zkh : Shp := ⟨1, 0, [(0, .d .bool)], []⟩
def zn9 : XS := .one .ret zkh.xe
theorem zv8 : zn9.OK := XS.one_ok (z0c zkh)
def zdv (t0 : List T2) (f : T4) : Option ((Bool)) :=
 (zga t0 f).bind fun r =>
 some (leI 0 r)
def zmy : Sig := ⟨71, [.d c5, .fn 72 [.rf (.d c14)]], [], 0, zn9⟩
def zli (x : (List T2) × T4) : Option ((Bool)) := zdv x.1 x.2
theorem zyu : FnOK Try.prog zmy zli :=
 fn_ok zwr (h := .no) Try.func71 (z0p [] (by kernel_rfl) trivial) (by kernel_rfl) zv8 (fun x => by kernel_rfl)
def z1iq : Env := ⟨[(entQ z1ca z16q), (entQ z1kn z1i2), (entQ zxa zvl), (entQ zmy zli)], [], []⟩
theorem zz5 : EnvsOK Try.prog z1iq := ⟨z0o (z0q z1hq) (z0o (z0q z1r1) (z0o (z0q z1d2) (z0o (z0q zyu) (z0x _)))), z0u _, z0t _⟩
def zk0 : Shp := ⟨45, 0, [(3, .pt 0 r15 []), (4, .pt 1 r13 [])], [.var 33 (.d c17), .var 49 (.d c14)]⟩
def zjo : Shp := ⟨45, 0, [(6, .d .bool)], []⟩
def z8r : XS := .or (.exit 0) zk0.xe (.one .ret zjo.xe)
theorem ztr : z8r.OK := XS.or_ok (z0c zk0) (XS.one_ok (z0c zjo))
def z9d : Shp := ⟨45, 0, [(3, .pt 0 r15 []), (4, .pt 1 r13 []), (5, .pt 2 (.one (.arr 8 .leaf)) []), (29, .d c10), (30, .d (.int .i64)), (31, .d (.int .i64))], [.var 33 (.d c17), .var 49 (.d c14), .var 25 (.d c1)]⟩
abbrev zf8 := (List T3) × Int × Int × T5 × T4 × (List Int)
abbrev zl7 := (T5 × T4) ⊕ (Bool)
def zf0 (t29 : List T3) (t30 : Int) (t31 : Int) (t3 : T5) (o : T4) (base : List Int) : Option (zf8 ⊕ zl7) :=
 bif ltI t31 t30 then
 (idxI t29 t31).bind fun x =>
 (zx2 base x.1).bind fun r =>
 bif !r then
 some (.inr (.inr true))
 else
 some (.inl (t29, t30, W64 (t31 + 1), t3, o, base))
 else
 some (.inr (.inl (t3, o)))
def z3h (s : zf8) : Option (zf8 ⊕ zl7) := zf0 s.1 s.2.1 s.2.2.1 s.2.2.2.1 s.2.2.2.2.1 s.2.2.2.2.2
theorem zv1 : SoundD Try.prog (.loop (subC (bodyC Try.f40) [1, 1, 0, 1, 0, 0])) (loopD z9d.xe z8r (loopC z3h)) :=
 z0w (S := z9d.xe) (X := z8r) zz5 (h := .no) (z0p [] (by kernel_rfl) trivial) (z0c z9d) ztr z3h (fun s => by kernel_rfl)
def zxw : Shp := ⟨1, 0, [(0, .d .bool)], []⟩
def z13t : XS := .one .ret zxw.xe
theorem z1dh : z13t.OK := XS.one_ok (z0c zxw)
def zlu (t0 : T5) (o : T4) (base : List Int) : Option ((Bool)) :=
 (zx2 base o.1).bind fun r =>
 bif !r then
 some true
 else
 (z1cv o.2.2.2.2.1 base).bind fun r2 =>
 bif !r2 then
 some true
 else
 (zmd o.2.2.2.2.2 o.2.2.2.2.1).bind fun r3 =>
 bif r3 then
 some true
 else
 z0s (List.length o.2.2.2.2.2) (
 (loopC z3h (o.2.2.2.2.2, (List.length o.2.2.2.2.2 : Nat), 0, t0, o, base)).bind fun o2 =>
 Sum.elim (fun y =>
 (zdv y.1.2.2.1 y.2).bind fun r4 =>
 some r4) (fun y2 =>
 some y2) o2)
def zt1 : Sig := ⟨40, [.d c17, .d c14, .d c1], [], 0, z13t⟩
def zr7 (x : T5 × T4 × (List Int)) : Option ((Bool)) := zlu x.1 x.2.1 x.2.2
theorem z11d : FnOK Try.prog zt1 zr7 :=
 fn_ok zz5 (h := (.two .no (.two .no (.two (.two .no (.over (loopD z9d.xe z8r (loopC z3h)))) .no)))) Try.func40 (z0p [.den (.loop (subC (bodyC Try.f40) [1, 1, 0, 1, 0, 0])) (loopD z9d.xe z8r (loopC z3h))] (by kernel_rfl) ⟨zv1, trivial⟩) (by kernel_rfl) z1dh (fun x => by kernel_rfl)
def z1dc : Env := ⟨[(entQ zt1 zr7)], [], []⟩
theorem z19j : EnvsOK Try.prog z1dc := ⟨z0o (z0q z11d) (z0x _), z0u _, z0t _⟩
def zs4 : Shp := ⟨1, 0, [(0, .d .bool)], []⟩
def zvp : XS := .one .ret zs4.xe
theorem z16r : zvp.OK := XS.one_ok (z0c zs4)
def zgn (o : T4) (t1 : List Int) (t12 : List T4) (t13 : List T2) (t14 : List Int) (t15 : List Bool) (t2 : List Int) : Option ((Bool)) :=
 (zlu (t1, t12, t13, t14, t15) o t2).bind fun r =>
 some (!r)
def zne : Sig := ⟨39, [.d c14, .rf (.ag [.d c1, .d c18, .d c5, .d c16, .d (.arr 8 .bool)]), .rf (.d c1)], [], 0, zvp⟩
def zlp (x : T4 × (List Int) × (List T4) × (List T2) × (List Int) × (List Bool) × (List Int)) : Option ((Bool)) := zgn x.1 x.2.1 x.2.2.1 x.2.2.2.1 x.2.2.2.2.1 x.2.2.2.2.2.1 x.2.2.2.2.2.2
theorem zu3 : FnOK Try.prog zne zlp :=
 fn_ok z19j (h := .no) Try.func39 (z0p [] (by kernel_rfl) trivial) (by kernel_rfl) z16r (fun x => by kernel_rfl)
def z16v : Env := ⟨[(entQ zne zlp)], [], []⟩
theorem zno : EnvsOK Try.prog z16v := ⟨z0o (z0q zu3) (z0x _), z0u _, z0t _⟩
def zg0 : Shp := ⟨19, 0, [], []⟩
def zgd : Shp := ⟨19, 0, [(4, .d (.int .i64))], []⟩
def z5w : XS := .or (.exit 0) zg0.xe (.one .ret zgd.xe)
theorem zq4 : z5w.OK := XS.or_ok (z0c zg0) (XS.one_ok (z0c zgd))
def z6f : Shp := ⟨19, 0, [(0, .d c18), (1, .fn 39 [.rf (.ag [.d c1, .d c18, .d c5, .d c16, .d (.arr 8 .bool)]), .rf (.d c1)]), (7, .d (.int .i64)), (8, .d (.int .i64))], []⟩
abbrev zd2 := (List T4) × (List Int) × (List T4) × (List T2) × (List Int) × (List Bool) × (List Int) × Int × Int
abbrev zic := (Unit) ⊕ (Int)
def zd1 (t0 : List T4) (f : List Int) (f2 : List T4) (f3 : List T2) (f4 : List Int) (f5 : List Bool) (f6 : List Int) (t7 : Int) (t8 : Int) : Option (zd2 ⊕ zic) :=
 bif ltI t8 t7 then
 (idxI t0 t8).bind fun x =>
 (zgn x f f2 f3 f4 f5 f6).bind fun r =>
 bif r then
 some (.inr (.inr t8))
 else
 some (.inl (t0, f, f2, f3, f4, f5, f6, t7, W64 (t8 + 1)))
 else
 some (.inr (.inl ()))
def z2o (s : zd2) : Option (zd2 ⊕ zic) := zd1 s.1 s.2.1 s.2.2.1 s.2.2.2.1 s.2.2.2.2.1 s.2.2.2.2.2.1 s.2.2.2.2.2.2.1 s.2.2.2.2.2.2.2.1 s.2.2.2.2.2.2.2.2
theorem zqx : SoundD Try.prog (.loop (subC (bodyC Try.f68) [1, 0, 1, 0, 0])) (loopD z6f.xe z5w (loopC z2o)) :=
 z0w (S := z6f.xe) (X := z5w) zno (h := .no) (z0p [] (by kernel_rfl) trivial) (z0c z6f) zq4 z2o (fun s => by kernel_rfl)
def znj : Shp := ⟨1, 0, [(0, .d (.int .i64))], []⟩
def zqu : XS := .one .ret znj.xe
theorem zze : zqu.OK := XS.one_ok (z0c znj)
def zgj (t0 : List T4) (f : List Int) (f2 : List T4) (f3 : List T2) (f4 : List Int) (f5 : List Bool) (f6 : List Int) : Option ((Int)) :=
 z0s (List.length t0) (
 (loopC z2o (t0, f, f2, f3, f4, f5, f6, (List.length t0 : Nat), 0)).bind fun o =>
 Sum.elim (fun y =>
 some (-1)) (fun y2 =>
 some y2) o)
def zqs : Sig := ⟨68, [.d c18, .fn 39 [.rf (.ag [.d c1, .d c18, .d c5, .d c16, .d (.arr 8 .bool)]), .rf (.d c1)]], [], 0, zqu⟩
def zpd (x : (List T4) × (List Int) × (List T4) × (List T2) × (List Int) × (List Bool) × (List Int)) : Option ((Int)) := zgj x.1 x.2.1 x.2.2.1 x.2.2.2.1 x.2.2.2.2.1 x.2.2.2.2.2.1 x.2.2.2.2.2.2
theorem z14p : FnOK Try.prog zqs zpd :=
 fn_ok zno (h := (.two .no (.two (.two .no (.over (loopD z6f.xe z5w (loopC z2o)))) .no))) Try.func68 (z0p [.den (.loop (subC (bodyC Try.f68) [1, 0, 1, 0, 0])) (loopD z6f.xe z5w (loopC z2o))] (by kernel_rfl) ⟨zqx, trivial⟩) (by kernel_rfl) zze (fun x => by kernel_rfl)
def z14y : Env := ⟨[(entQ zqs zpd), (entQ zne zlp)], [], []⟩
theorem zn0 : EnvsOK Try.prog z14y := ⟨z0o (z0q z14p) (z0o (z0q zu3) (z0x _)), z0u _, z0t _⟩
def zdt : Shp := ⟨42, 3, [(0, .wn 0 c14), (5, .d (.int .i64))], [.row 49 c14, .var 33 (.ag [.d c1, .wn 0 c14, .ws 3 c6, .d c16, .d (.arr 8 .bool)]), .var 25 (.d c1), .row 45 c6]⟩
def z4h : XS := .one (.exit 0) zdt.xe
theorem zla : z4h.OK := XS.one_ok (z0c zdt)
def z4a : Shp := ⟨42, 3, [(0, .wn 0 c14), (1, .fn 39 [.pt 1 r15 [], .pt 2 (.one (.arr 8 .leaf)) []]), (5, .d (.int .i64)), (6, .d (.int .i64))], [.row 49 c14, .var 33 (.ag [.d c1, .wn 0 c14, .ws 3 c6, .d c16, .d (.arr 8 .bool)]), .var 25 (.d c1), .row 45 c6]⟩
abbrev zap := Int × Int × (List T4) × (List Int) × (List Bool) × (List Int) × (List Bool) × (List Int) × (List T2)
abbrev zeq := (Int × (List T4) × (List Int) × (List Bool) × (List Int) × (List Bool) × (List Int) × (List T2))
def zb4 (i : Int) (j : Int) (t0 : List T4) (del : List Int) (del2 : List Bool) (del3 : List Int) (del4 : List Bool) (del5 : List Int) (del6 : List T2) : Option (zap ⊕ zeq) :=
 z0s (List.length t0) (
 bif ltI j (List.length t0 : Nat) then
 bif inI j (List.length t0) then
 (t0[j.toNat]?).bind fun x =>
 winK t0 0 (List.length t0) fun w =>
 winK del6 0 (lenW del2) fun w2 =>
 (zgn x del w w2 del3 del4 del5).bind fun r =>
 bif !r then
 bif inI i (List.length t0) then
 (t0[i.toNat]?).bind fun _x =>
 bif Nat.beq (List.length t0) (List.length (t0.set i.toNat x)) then
 bif Nat.beq (List.length t0) (List.length (t0.set i.toNat x)) then
 some (.inl (W64 (i + 1), W64 (j + 1), t0.set i.toNat x, del, (List.replicate (lenW del2) true), del3, del4, del5, del6))
 else none
 else none
 else none
 else
 bif Nat.beq (List.length t0) (List.length t0) then
 bif Nat.beq (List.length t0) (List.length t0) then
 some (.inl (i, W64 (j + 1), t0, del, (List.replicate (lenW del2) true), del3, del4, del5, del6))
 else none
 else none
 else none
 else
 bif Nat.beq (List.length t0) (List.length t0) then
 bif Nat.beq (List.length t0) (List.length t0) then
 some (.inr (i, t0, del, (List.replicate (lenW del2) true), del3, del4, del5, del6))
 else none
 else none)
def z1r (s : zap) : Option (zap ⊕ zeq) := zb4 s.1 s.2.1 s.2.2.1 s.2.2.2.1 s.2.2.2.2.1 s.2.2.2.2.2.1 s.2.2.2.2.2.2.1 s.2.2.2.2.2.2.2.1 s.2.2.2.2.2.2.2.2
theorem zmb : SoundD Try.prog (.loop (subC (bodyC Try.f38) [1, 1, 1, 0, 1, 0, 0])) (loopD z4a.xe z4h (loopC z1r)) :=
 z0w (S := z4a.xe) (X := z4h) zn0 (h := .no) (z0p [] (by kernel_rfl) trivial) (z0c z4a) zla z1r (fun s => by kernel_rfl)
def zn3 : Shp := ⟨1, 3, [(0, .ws 0 c14)], [.row 49 c14, .var 33 (.ag [.d c1, .wn 0 c14, .ws 3 c6, .d c16, .d (.arr 8 .bool)]), .var 25 (.d c1), .row 45 c6]⟩
def zpa : XS := .one .ret zn3.xe
theorem zxt : zpa.OK := XS.one_ok (z0c zn3)
def zfe (t0 : List T4) (del : List Int) (del2 : List Bool) (del3 : List Int) (del4 : List Bool) (del5 : List Int) (del6 : List T2) : Option (((List Bool) × (List T4) × (List Int) × (List Bool) × (List Int) × (List Bool) × (List Int) × (List T2))) :=
 winK t0 0 (List.length t0) fun w =>
 winK t0 0 (List.length t0) fun w2 =>
 winK del6 0 (lenW del2) fun w3 =>
 (zgj w del w2 w3 del3 del4 del5).bind fun r =>
 bif eqI r (-1) then
 bif Nat.beq (List.length t0) (List.length t0) then
 some ((List.replicate (List.length t0) true), t0, del, (List.replicate (lenW del2) true), del3, del4, del5, del6)
 else none
 else
 bif Nat.beq (List.length t0) (List.length t0) then
 bif Nat.beq (List.length t0) (List.length t0) then
 (loopC z1r (r, W64 (r + 1), t0, del, (List.replicate (lenW del2) true), del3, del4, del5, del6)).bind fun o =>
 bif subOk o.1 (List.length o.2.1 : Nat) (List.length o.2.1) then
 bif Nat.ble (addN o.1.toNat ((List.length o.2.1) - o.1.toNat)) (List.length o.2.1) then
 bif subOk 0 o.1 (List.length o.2.1) then
 bif Nat.beq (List.length o.2.1) (List.length (cpyL o.2.1 o.1.toNat ((List.length o.2.1) - o.1.toNat) (List.replicate ((List.length o.2.1) - o.1.toNat) (((0 : Int), (0 : Int)), false, ((0 : Int), (0 : Int)), ([] : List Int), List.replicate 8 (0 : Int), ([] : List T3))))) then
 some (((List.replicate o.1.toNat true), cpyL o.2.1 o.1.toNat ((List.length o.2.1) - o.1.toNat) (List.replicate ((List.length o.2.1) - o.1.toNat) (((0 : Int), (0 : Int)), false, ((0 : Int), (0 : Int)), ([] : List Int), List.replicate 8 (0 : Int), ([] : List T3))), o.2.2.1, (List.replicate (lenW o.2.2.2.1) true), o.2.2.2.2.1, o.2.2.2.2.2.1, o.2.2.2.2.2.2.1, o.2.2.2.2.2.2.2))
 else none
 else none
 else none
 else none
 else none
 else none
def zpl : Sig := ⟨38, [.wn 0 c14, .fn 39 [.pt 1 r15 [], .pt 2 (.one (.arr 8 .leaf)) []]], [.row 49 c14, .var 33 (.ag [.d c1, .wn 0 c14, .ws 3 c6, .d c16, .d (.arr 8 .bool)]), .var 25 (.d c1), .row 45 c6], 3, zpa⟩
def znr (x : (List T4) × (List Int) × (List Bool) × (List Int) × (List Bool) × (List Int) × (List T2)) : Option (((List Bool) × (List T4) × (List Int) × (List Bool) × (List Int) × (List Bool) × (List Int) × (List T2))) := zfe x.1 x.2.1 x.2.2.1 x.2.2.2.1 x.2.2.2.2.1 x.2.2.2.2.2.1 x.2.2.2.2.2.2
theorem z11w : FnOK Try.prog zpl znr :=
 fn_ok zn0 (h := (.two .no (.two .no (.two .no (.two (.two .no (.over (loopD z4a.xe z4h (loopC z1r)))) .no))))) Try.func38 (z0p [.den (.loop (subC (bodyC Try.f38) [1, 1, 1, 0, 1, 0, 0])) (loopD z4a.xe z4h (loopC z1r))] (by kernel_rfl) ⟨zmb, trivial⟩) (by kernel_rfl) zxt (fun x => by kernel_rfl)
def z1gu : Env := ⟨[(entQ zzn zxn)], [(entP zzu zxe), (entP zzr zxh), (entP zpl znr)], []⟩
theorem zvh : EnvsOK Try.prog z1gu := ⟨z0o (z0q z1fk) (z0x _), zdg (zi2 z1g2) (zdg (zi2 z1ez) (zdg (zi2 z11w) (z0u _))), z0t _⟩
def zhk : Shp := ⟨41, 0, [(3, .pt 0 (.one (.arr 8 .leaf)) []), (4, .pt 1 r15 []), (5, .pt 2 r15 [])], [.var 25 (.d c1), .var 33 (.ag [.d c1, .wn 3 c14, .wn 4 c6, .d c16, .d (.arr 8 .bool)]), .var 33 (.ag [.d c1, .wn 5 c14, .ws 6 c6, .d c16, .d (.arr 8 .bool)]), .row 49 c14, .row 45 c6, .row 49 c14, .row 45 c6]⟩
def z6x : XS := .one (.exit 0) zhk.xe
theorem zqn : z6x.OK := XS.one_ok (z0c zhk)
def z6u : Shp := ⟨41, 0, [(3, .pt 0 (.one (.arr 8 .leaf)) []), (4, .pt 1 r15 []), (5, .pt 2 r15 []), (17, .d (.int .i64)), (18, .d (.int .i64))], [.var 25 (.d c1), .var 33 (.ag [.d c1, .wn 3 c14, .wn 4 c6, .d c16, .d (.arr 8 .bool)]), .var 33 (.ag [.d c1, .wn 5 c14, .ws 6 c6, .d c16, .d (.arr 8 .bool)]), .row 49 c14, .row 45 c6, .row 49 c14, .row 45 c6]⟩
abbrev zdc := Int × Int × (List Int) × (List Int) × (List Int) × (List Bool) × (List Int) × (List Bool) × (List Int) × (List Bool) × (List T4) × (List T2) × (List T4) × (List T2)
abbrev zim := ((List Int) × (List Int) × (List Int) × (List Bool) × (List Int) × (List Bool) × (List Int) × (List Bool) × (List T4) × (List T2) × (List T4) × (List T2))
def zd7 (t17 : Int) (t18 : Int) (base : List Int) (t4 : List Int) (t42 : List Int) (t43 : List Bool) (out : List Int) (out2 : List Bool) (out3 : List Int) (out4 : List Bool) (t44 : List T4) (t45 : List T2) (out5 : List T4) (out6 : List T2) : Option (zdc ⊕ zim) :=
 bif ltI t18 t17 then
 bif inI t18 (List.length out5) then
 (out5[t18.toNat]?).bind fun x =>
 (zot x.2.2.2.2.2 base).bind fun r =>
 (out5[t18.toNat]?).bind fun x2 =>
 bif Nat.beq (List.length t44) (List.length t44) then
 bif Nat.beq (List.length t45) (List.length t45) then
 bif Nat.beq (List.length out5) (List.length (out5.set t18.toNat (x2.1, x2.2.1, x2.2.2.1, x2.2.2.2.1, x2.2.2.2.2.1, r))) then
 some (.inl (t17, W64 (t18 + 1), base, t4, t42, t43, out, (List.replicate (lenW out2) true), out3, out4, t44, t45, out5.set t18.toNat (x2.1, x2.2.1, x2.2.2.1, x2.2.2.2.1, x2.2.2.2.2.1, r), out6))
 else none
 else none
 else none
 else none
 else
 bif Nat.beq (List.length t44) (List.length t44) then
 bif Nat.beq (List.length t45) (List.length t45) then
 bif Nat.beq (List.length out5) (List.length out5) then
 some (.inr (base, t4, t42, t43, out, (List.replicate (lenW out2) true), out3, out4, t44, t45, out5, out6))
 else none
 else none
 else none
def z3f (s : zdc) : Option (zdc ⊕ zim) := zd7 s.1 s.2.1 s.2.2.1 s.2.2.2.1 s.2.2.2.2.1 s.2.2.2.2.2.1 s.2.2.2.2.2.2.1 s.2.2.2.2.2.2.2.1 s.2.2.2.2.2.2.2.2.1 s.2.2.2.2.2.2.2.2.2.1 s.2.2.2.2.2.2.2.2.2.2.1 s.2.2.2.2.2.2.2.2.2.2.2.1 s.2.2.2.2.2.2.2.2.2.2.2.2.1 s.2.2.2.2.2.2.2.2.2.2.2.2.2
theorem zrv : SoundD Try.prog (.loop (subC (bodyC Try.f12) [1, 1, 1, 0, 1, 0, 0])) (loopD z6u.xe z6x (loopC z3f)) :=
 z0w (S := z6u.xe) (X := z6x) zvh (h := .no) (z0p [] (by kernel_rfl) trivial) (z0c z6u) zqn z3f (fun s => by kernel_rfl)
def zvr : Shp := ⟨1, 0, [(0, .d c17)], []⟩
def z11b : XS := .one .ret zvr.xe
theorem z1a2 : z11b.OK := XS.one_ok (z0c zvr)
def z9g (t0 : T5) (base : List Int) : Option ((T5)) :=
 (zoo t0).bind fun r =>
 bif Nat.beq (List.length r.2.2.2.2) (List.length r.2.2.2.2) then
 (zoq base r.2.2.2.2).bind fun r2 =>
 z0s (List.length r.2.2.2.1) (
 bif Nat.beq 0 (List.length ([] : List T4)) then
 bif Nat.beq 0 (List.length ([] : List T2)) then
 bif Nat.beq (List.length r.2.2.2.1) (List.length r.2.2.2.1) then
 (loopC z3f ((List.length r.2.2.2.1 : Nat), 0, base, List.replicate 8 (0 : Int), List.replicate 8 (0 : Int), List.replicate 8 false, r.1, (List.replicate (lenW r2.1) true), r.2.1, r.2.2.1, ([] : List T4), ([] : List T2), r.2.2.2.1, r2.2.2)).bind fun o =>
 bif Nat.beq (List.length o.2.2.2.2.2.2.2.2.2.2.1) (List.length o.2.2.2.2.2.2.2.2.2.2.1) then
 bif Nat.beq (List.length o.2.2.2.2.2.2.2.2.2.2.1) (List.length o.2.2.2.2.2.2.2.2.2.2.1) then
 (zfe o.2.2.2.2.2.2.2.2.2.2.1 o.2.2.2.2.1 (List.replicate (lenW o.2.2.2.2.2.1) true) o.2.2.2.2.2.2.1 o.2.2.2.2.2.2.2.1 o.1 o.2.2.2.2.2.2.2.2.2.2.2).bind fun r3 =>
 winK r3.2.1 0 (lenW r3.1) fun w =>
 winK r3.2.2.2.2.2.2.2 0 (lenW r3.2.2.2.1) fun w2 =>
 some (r3.2.2.1, w, w2, r3.2.2.2.2.1, r3.2.2.2.2.2.1)
 else none
 else none
 else none
 else none
 else none)
 else none
def zqr : Sig := ⟨12, [.d c17, .d c1], [], 0, z11b⟩
def zoy (x : T5 × (List Int)) : Option ((T5)) := z9g x.1 x.2
theorem zyh : FnOK Try.prog zqr zoy :=
 fn_ok zvh (h := (.two .no (.two .no (.two .no (.two (.two .no (.over (loopD z6u.xe z6x (loopC z3f)))) .no))))) Try.func12 (z0p [.den (.loop (subC (bodyC Try.f12) [1, 1, 1, 0, 1, 0, 0])) (loopD z6u.xe z6x (loopC z3f))] (by kernel_rfl) ⟨zrv, trivial⟩) (by kernel_rfl) z1a2 (fun x => by kernel_rfl)
def z1lh : Env := ⟨[], [], []⟩
theorem z1gt : EnvsOK Try.prog z1lh := ⟨z0x _, z0u _, z0t _⟩
def z11a : Shp := ⟨1, 0, [(0, .d .bool)], []⟩
def z18q : XS := .one .ret z11a.xe
theorem z1fg : z18q.OK := XS.one_ok (z0c z11a)
def ztc (x : T2) : Option ((Bool)) :=
 some (eqU c1 x.2.2.2.2 (List.replicate 8 (0 : Int)))
def z17f : Sig := ⟨45, [.d c6], [], 0, z18q⟩
def z14j (x : T2) : Option ((Bool)) := ztc x
theorem z1is : FnOK Try.prog z17f z14j :=
 fn_ok z1gt (h := .no) Try.func45 (z0p [] (by kernel_rfl) trivial) (by kernel_rfl) z1fg (fun x => by kernel_rfl)
def z1oc : Env := ⟨[(entQ z17f z14j), (entQ zt6 zrg), (entQ zt1 zr7)], [], []⟩
theorem zmj : EnvsOK Try.prog z1oc := ⟨z0o (z0q z1is) (z0o (z0q z10v) (z0o (z0q z11d) (z0x _))), z0u _, z0t _⟩
def zl6 : Shp := ⟨53, 0, [(1, .pt 0 r15 []), (3, .d (.int .i64))], [.var 33 (.d c17)]⟩
def zae : XS := .one (.exit 0) zl6.xe
theorem zwu : zae.OK := XS.one_ok (z0c zl6)
def zaw : Shp := ⟨53, 0, [(1, .pt 0 r15 []), (3, .d (.int .i64)), (11, .d c5), (12, .d (.int .i64)), (13, .d (.int .i64))], [.var 33 (.d c17)]⟩
abbrev zgr := Int × (List T2) × Int × Int × T5
abbrev zni := (Int × T5)
def zgq (n : Int) (t11 : List T2) (t12 : Int) (t13 : Int) (t1 : T5) : Option (zgr ⊕ zni) :=
 bif ltI t13 t12 then
 (idxI t11 t13).bind fun x =>
 (ztc x).bind fun r =>
 bif !r then
 some (.inl (W64 (n + 1), t11, t12, W64 (t13 + 1), t1))
 else
 some (.inl (n, t11, t12, W64 (t13 + 1), t1))
 else
 some (.inr (n, t1))
def z4c (s : zgr) : Option (zgr ⊕ zni) := zgq s.1 s.2.1 s.2.2.1 s.2.2.2.1 s.2.2.2.2
theorem zy2 : SoundD Try.prog (.loop (subC (bodyC Try.f15) [1, 1, 0, 1, 0, 0])) (loopD zaw.xe zae (loopC z4c)) :=
 z0w (S := zaw.xe) (X := zae) zmj (h := .no) (z0p [] (by kernel_rfl) trivial) (z0c zaw) zwu z4c (fun s => by kernel_rfl)
def zar : Shp := ⟨53, 0, [(1, .pt 0 r15 []), (3, .d (.int .i64)), (7, .pt 1 r13 []), (24, .d c18), (25, .d (.int .i64)), (26, .d (.int .i64))], [.var 33 (.d c17), .var 49 (.d c14)]⟩
def z2q : XS := .one (.exit 4) zar.xe
theorem zg5 : z2q.OK := XS.one_ok (z0c zar)
def z2p : Shp := ⟨53, 0, [(1, .pt 0 r15 []), (3, .d (.int .i64)), (7, .pt 1 r13 []), (24, .d c18), (25, .d (.int .i64)), (26, .d (.int .i64)), (31, .d c10), (32, .d (.int .i64)), (33, .d (.int .i64))], [.var 33 (.d c17), .var 49 (.d c14)]⟩
abbrev z6i := Int × (List T4) × Int × Int × (List T3) × Int × Int × T5 × T4
abbrev zbd := (Int × (List T4) × Int × Int × T5 × T4)
def z6e (n : Int) (t24 : List T4) (t25 : Int) (t26 : Int) (t31 : List T3) (t32 : Int) (t33 : Int) (t1 : T5) (o : T4) : Option (z6i ⊕ zbd) :=
 bif ltI t33 t32 then
 (idxI t31 t33).bind fun x =>
 (zqd x).bind fun r =>
 bif !r then
 some (.inl (W64 (n + 1), t24, t25, t26, t31, t32, W64 (t33 + 1), t1, o))
 else
 some (.inl (n, t24, t25, t26, t31, t32, W64 (t33 + 1), t1, o))
 else
 some (.inr (n, t24, t25, t26, t1, o))
def z1h (s : z6i) : Option (z6i ⊕ zbd) := z6e s.1 s.2.1 s.2.2.1 s.2.2.2.1 s.2.2.2.2.1 s.2.2.2.2.2.1 s.2.2.2.2.2.2.1 s.2.2.2.2.2.2.2.1 s.2.2.2.2.2.2.2.2
theorem zh0 : SoundD Try.prog (.loop (subC (bodyC Try.f15) [1, 1, 1, 0, 1, 0, 0, 1, 1, 0, 0, 1, 0, 1, 0, 0])) (loopD z2p.xe z2q (loopC z1h)) :=
 z0w (S := z2p.xe) (X := z2q) zmj (h := .no) (z0p [] (by kernel_rfl) trivial) (z0c z2p) zg5 z1h (fun s => by kernel_rfl)
def zk1 : Shp := ⟨53, 0, [(3, .d (.int .i64))], []⟩
def z8u : XS := .one (.exit 2) zk1.xe
theorem zu7 : z8u.OK := XS.one_ok (z0c zk1)
def z8q : Shp := ⟨53, 0, [(1, .pt 0 r15 []), (3, .d (.int .i64)), (24, .d c18), (25, .d (.int .i64)), (26, .d (.int .i64))], [.var 33 (.d c17)]⟩
abbrev zf2 := Int × (List T4) × Int × Int × T5
abbrev zm2 := (Int)
def zf1 (n : Int) (t24 : List T4) (t25 : Int) (t26 : Int) (t1 : T5) : Option (zf2 ⊕ zm2) :=
 bif ltI t26 t25 then
 (idxI t24 t26).bind fun x =>
 z0s (List.length x.2.2.2.2.2) (
 (loopC z1h (n, t24, t25, t26, x.2.2.2.2.2, (List.length x.2.2.2.2.2 : Nat), 0, t1, x)).bind fun o =>
 (zlu o.2.2.2.2.1 o.2.2.2.2.2 o.2.2.2.2.1.1).bind fun r =>
 bif !r then
 some (.inl (W64 (o.1 + 1), o.2.1, o.2.2.1, W64 (o.2.2.2.1 + 1), o.2.2.2.2.1))
 else
 some (.inl (o.1, o.2.1, o.2.2.1, W64 (o.2.2.2.1 + 1), o.2.2.2.2.1)))
 else
 some (.inr n)
def z4n (s : zf2) : Option (zf2 ⊕ zm2) := zf1 s.1 s.2.1 s.2.2.1 s.2.2.2.1 s.2.2.2.2
theorem zuy : SoundD Try.prog (.loop (subC (bodyC Try.f15) [1, 1, 1, 0, 1, 0, 0])) (loopD z8q.xe z8u (loopC z4n)) :=
 z0w (S := z8q.xe) (X := z8u) zmj (h := (.two .no (.two .no (.two (.two .no (.two (.two .no (.over (loopD z2p.xe z2q (loopC z1h)))) .no)) .no)))) (z0p [.den (.loop (subC (bodyC Try.f15) [1, 1, 1, 0, 1, 0, 0, 1, 1, 0, 0, 1, 0, 1, 0, 0])) (loopD z2p.xe z2q (loopC z1h))] (by kernel_rfl) ⟨zh0, trivial⟩) (z0c z8q) zu7 z4n (fun s => by kernel_rfl)
def z14s : Shp := ⟨1, 0, [(0, .d (.int .i64))], []⟩
def z1a9 : XS := .one .ret z14s.xe
theorem z1i7 : z1a9.OK := XS.one_ok (z0c z14s)
def zj5 (t0 : T5) : Option ((Int)) :=
 z0s (List.length t0.2.2.1) (
 (loopC z4c (0, t0.2.2.1, (List.length t0.2.2.1 : Nat), 0, t0)).bind fun o =>
 z0s (List.length o.2.2.1) (
 (loopC z4n (o.1, o.2.2.1, (List.length o.2.2.1 : Nat), 0, o.2)).bind fun o2 =>
 some o2))
def zys : Sig := ⟨15, [.d c17], [], 0, z1a9⟩
def zur (x : T5) : Option ((Int)) := zj5 x
theorem z17z : FnOK Try.prog zys zur :=
 fn_ok zmj (h := (.two .no (.two .no (.two (.two .no (.over (loopD zaw.xe zae (loopC z4c)))) (.two (.two .no (.over (loopD z8q.xe z8u (loopC z4n)))) .no))))) Try.func15 (z0p [.den (.loop (subC (bodyC Try.f15) [1, 1, 0, 1, 0, 0])) (loopD zaw.xe zae (loopC z4c)), .den (.loop (subC (bodyC Try.f15) [1, 1, 1, 0, 1, 0, 0])) (loopD z8q.xe z8u (loopC z4n))] (by kernel_rfl) ⟨zy2, zuy, trivial⟩) (by kernel_rfl) z1i7 (fun x => by kernel_rfl)
def z1ll : Env := ⟨[(entQ zuq zsg), (entQ zqr zoy), (entQ zys zur)], [], []⟩
theorem z1ho : EnvsOK Try.prog z1ll := ⟨z0o (z0q z14r) (z0o (z0q zyh) (z0o (z0q z17z) (z0x _))), z0u _, z0t _⟩
def zzz : Shp := ⟨1, 0, [(0, .d .bool)], []⟩
def z17p : XS := .one .ret zzz.xe
theorem z1es : z17p.OK := XS.one_ok (z0c zzz)
def zd6  : Option ((Bool)) :=
 (zet (([((1, 1), List.replicate 8 (0 : Int), 1, (0, 0), (0, 0), ([97] : List Int), [], [], 0, [], 0), ((1, 2), (List.replicate 8 (0 : Int)).set 0 1, 6, (1, 1), (0, 0), [], ([(1, 1)] : List T0), [], 0, [], 0)] : List T1))).bind fun r =>
 (z9g r ((List.replicate 8 (0 : Int)).set 0 1)).bind fun r2 =>
 (z9g r ((List.replicate 8 (0 : Int)).set 0 2)).bind fun r3 =>
 z0s (List.length r2.2.2.1) (
 bif eqI (List.length r2.2.2.1 : Nat) 1 then
 z0s (List.length r2.2.1) (
 bif eqI (List.length r2.2.1 : Nat) 1 then
 z0s (List.length r3.2.2.1) (
 z0s (List.length r3.2.1) (
 bif eqI (W64 ((List.length r3.2.2.1 : Nat) + (List.length r3.2.1 : Nat))) 0 then
 bif eqU c1 r3.1 r.1 then
 (zj5 r).bind fun r4 =>
 some (eqI r4 1)
 else
 some false
 else
 some false))
 else
 some false)
 else
 some false)
def z18h : Sig := ⟨8, [], [], 0, z17p⟩
def z12m (x : Unit) : Option ((Bool)) := zd6 
theorem z1ip : FnOK Try.prog z18h z12m :=
 fn_ok z1ho (h := .no) Try.func8 (z0p [] (by kernel_rfl) trivial) (by kernel_rfl) z1es (fun x => by kernel_rfl)
def z1lr : Env := ⟨[], [], []⟩
theorem z11e : EnvsOK Try.prog z1lr := ⟨z0x _, z0u _, z0t _⟩
def zfa : Shp := ⟨41, 0, [(2, .pt 0 (.one (.arr 8 .leaf)) []), (3, .pt 1 (.one (.arr 8 .leaf)) []), (5, .d .bool), (6, .d .bool), (7, .d (.int .i64))], [.var 25 (.d c1), .var 25 (.d c1)]⟩
def zc1 : XS := .one .normal zfa.xe
theorem zom : zc1.OK := XS.one_ok (z0c zfa)
def zkk : Shp := ⟨41, 0, [(5, .d .bool), (6, .d .bool)], []⟩
def z9u : XS := .one (.exit 0) zkk.xe
theorem zv4 : z9u.OK := XS.one_ok (z0c zkk)
def z9w : Shp := ⟨41, 0, [(2, .pt 0 (.one (.arr 8 .leaf)) []), (3, .pt 1 (.one (.arr 8 .leaf)) []), (5, .d .bool), (6, .d .bool), (7, .d (.int .i64))], [.var 25 (.d c1), .var 25 (.d c1)]⟩
abbrev zfo := Bool × Bool × Int × (List Int) × (List Int)
abbrev zn2 := (Bool × Bool)
def zfq (less : Bool) (more : Bool) (i : Int) (a : List Int) (b : List Int) : Option (zfo ⊕ zn2) :=
 bif ltI i 8 then
 (show Option ((Bool × Bool × Int × (List Int) × (List Int))) from
 bif less then
 some (true, more, i, a, b)
 else
 bif inI i 8 then
 (a[i.toNat]?).bind fun x =>
 bif inI i 8 then
 (b[i.toNat]?).bind fun x2 =>
 some (ltI x x2, more, i, a, b)
 else none
 else none).bind fun j =>
 bif j.2.1 then
 some (.inl (j.1, true, W64 (j.2.2.1 + 1), j.2.2.2.1, j.2.2.2.2))
 else
 bif inI j.2.2.1 8 then
 (j.2.2.2.1[j.2.2.1.toNat]?).bind fun x3 =>
 bif inI j.2.2.1 8 then
 (j.2.2.2.2[j.2.2.1.toNat]?).bind fun x4 =>
 some (.inl (j.1, ltI x4 x3, W64 (j.2.2.1 + 1), j.2.2.2.1, j.2.2.2.2))
 else none
 else none
 else
 some (.inr (less, more))
def z4w (s : zfo) : Option (zfo ⊕ zn2) := zfq s.1 s.2.1 s.2.2.1 s.2.2.2.1 s.2.2.2.2
theorem zwg : SoundD Try.prog (.loop (subC (bodyC Try.f52) [1, 1, 0, 1, 0, 0])) (loopD z9w.xe z9u (loopC z4w)) :=
 z0w (S := z9w.xe) (X := z9u) z11e (h := (.two .no (.two (.join (fun _ => zc1) .no .no) .no))) (z0p [.xs (fun _ => zc1)] (by kernel_rfl) ⟨(z2j zom), trivial⟩) (z0c z9w) zv4 z4w (fun s => by kernel_rfl)
def zlq : Shp := ⟨41, 0, [(5, .d .bool), (6, .d .bool), (32, .d .bool)], []⟩
def zhh : XS := .one .normal zlq.xe
theorem zwk : zhh.OK := XS.one_ok (z0c zlq)
def z10y : Shp := ⟨1, 0, [(0, .d (.int .i64))], []⟩
def z18b : XS := .one .ret z10y.xe
theorem z1f2 : z18b.OK := XS.one_ok (z0c z10y)
def z11x (a : List Int) (b : List Int) : Option ((Int)) :=
 (loopC z4w (false, false, 0, a, b)).bind fun o =>
 (show Option ((Bool × Bool × Bool)) from
 bif o.1 then
 some (o.1, o.2, o.2)
 else
 some (o.1, o.2, false)).bind fun j =>
 bif j.2.2 then
 some 2
 else
 bif j.1 then
 some (-1)
 else
 bif j.2.1 then
 some 1
 else
 some 0
def z18u : Sig := ⟨52, [.d c1, .d c1], [], 0, z18b⟩
def z13i (x : (List Int) × (List Int)) : Option ((Int)) := z11x x.1 x.2
theorem z1jg : FnOK Try.prog z18u z13i :=
 fn_ok z11e (h := (.two .no (.two .no (.two (.two .no (.over (loopD z9w.xe z9u (loopC z4w)))) (.two (.join (fun _ => zhh) .no .no) .no))))) Try.func52 (z0p [.den (.loop (subC (bodyC Try.f52) [1, 1, 0, 1, 0, 0])) (loopD z9w.xe z9u (loopC z4w)), .xs (fun _ => zhh)] (by kernel_rfl) ⟨zwg, (z2j zwk), trivial⟩) (by kernel_rfl) z1f2 (fun x => by kernel_rfl)
def z1po : Env := ⟨[(entQ z18u z13i)], [], []⟩
theorem z1l9 : EnvsOK Try.prog z1po := ⟨z0o (z0q z1jg) (z0x _), z0u _, z0t _⟩
def z18e : Shp := ⟨1, 0, [(0, .d .bool)], []⟩
def z1e2 : XS := .one .ret z18e.xe
theorem z1j4 : z1e2.OK := XS.one_ok (z0c z18e)
def zzv (a : List Int) (b : List Int) : Option ((Bool)) :=
 (z11x a b).bind fun r =>
 some (leI r 0)
def z1ek : Sig := ⟨27, [.d c1, .d c1], [], 0, z1e2⟩
def z1ba (x : (List Int) × (List Int)) : Option ((Bool)) := zzv x.1 x.2
theorem z1nt : FnOK Try.prog z1ek z1ba :=
 fn_ok z1l9 (h := .no) Try.func27 (z0p [] (by kernel_rfl) trivial) (by kernel_rfl) z1j4 (fun x => by kernel_rfl)
def z1oh : Env := ⟨[], [], []⟩
theorem z13j : EnvsOK Try.prog z1oh := ⟨z0x _, z0u _, z0t _⟩
def zkx : Shp := ⟨37, 0, [], []⟩
def zky : Shp := ⟨37, 0, [(2, .d .bool)], []⟩
def zam : XS := .or (.exit 0) zkx.xe (.one .ret zky.xe)
theorem zw8 : zam.OK := XS.or_ok (z0c zkx) (XS.one_ok (z0c zky))
def zay : Shp := ⟨37, 0, [(8, .d c3), (9, .d (.int .i64)), (10, .d (.int .i64))], []⟩
abbrev zh1 := (List T1) × Int × Int
abbrev zny := (Unit) ⊕ (Bool)
def zh3 (t8 : List T1) (t9 : Int) (t10 : Int) : Option (zh1 ⊕ zny) :=
 bif ltI t10 t9 then
 (idxI t8 t10).bind fun x =>
 z0s (List.length x.2.2.2.2.2.1) (
 bif ltI 30 (List.length x.2.2.2.2.2.1 : Nat) then
 some (.inr (.inr false))
 else
 z0s (List.length x.2.2.2.2.2.2.2.2.2.1) (
 bif ltI 250 (List.length x.2.2.2.2.2.2.2.2.2.1 : Nat) then
 some (.inr (.inr false))
 else
 z0s (List.length x.2.2.2.2.2.2.1) (
 bif ltI 10 (List.length x.2.2.2.2.2.2.1 : Nat) then
 some (.inr (.inr false))
 else
 z0s (List.length x.2.2.2.2.2.2.2.1) (
 bif ltI 10 (List.length x.2.2.2.2.2.2.2.1 : Nat) then
 some (.inr (.inr false))
 else
 some (.inl (t8, t9, W64 (t10 + 1)))))))
 else
 some (.inr (.inl ()))
def z5h (s : zh1) : Option (zh1 ⊕ zny) := zh3 s.1 s.2.1 s.2.2
theorem zyq : SoundD Try.prog (.loop (subC (bodyC Try.f9) [1, 1, 0, 1, 0, 0])) (loopD zay.xe zam (loopC z5h)) :=
 z0w (S := zay.xe) (X := zam) z13j (h := .no) (z0p [] (by kernel_rfl) trivial) (z0c zay) zw8 z5h (fun s => by kernel_rfl)
def z15f : Shp := ⟨1, 0, [(0, .d .bool)], []⟩
def z1c0 : XS := .one .ret z15f.xe
theorem z1hc : z1c0.OK := XS.one_ok (z0c z15f)
def zro (l : List T1) : Option ((Bool)) :=
 z0s (List.length l) (
 bif ltI 25 (List.length l : Nat) then
 some false
 else
 z0s (List.length l) (
 (loopC z5h (l, (List.length l : Nat), 0)).bind fun o =>
 Sum.elim (fun y =>
 some true) (fun y2 =>
 some y2) o))
def z1b5 : Sig := ⟨9, [.d c3], [], 0, z1c0⟩
def z18k (x : (List T1)) : Option ((Bool)) := zro x
theorem z1lg : FnOK Try.prog z1b5 z18k :=
 fn_ok z13j (h := (.two .no (.two .no (.two (.two .no (.over (loopD zay.xe zam (loopC z5h)))) .no)))) Try.func9 (z0p [.den (.loop (subC (bodyC Try.f9) [1, 1, 0, 1, 0, 0])) (loopD zay.xe zam (loopC z5h))] (by kernel_rfl) ⟨zyq, trivial⟩) (by kernel_rfl) z1hc (fun x => by kernel_rfl)
def z1pn : Env := ⟨[(entQ zo5 zlt)], [], []⟩
theorem z1lq : EnvsOK Try.prog z1pn := ⟨z0o (z0q zrr) (z0x _), z0u _, z0t _⟩
def z17t : Shp := ⟨1, 0, [(0, .d .bool)], []⟩
def z1ee : XS := .one .ret z17t.xe
theorem z1je : z1ee.OK := XS.one_ok (z0c z17t)
def zll (v : List Int) (id : T0) : Option ((Bool)) :=
 bif ltI 0 id.2 then
 (zm6 v id.1).bind fun r =>
 some (leI id.2 r)
 else
 some false
def ztf : Sig := ⟨58, [.d c1, .d c0], [], 0, z1ee⟩
def zrn (x : (List Int) × T0) : Option ((Bool)) := zll x.1 x.2
theorem zye : FnOK Try.prog ztf zrn :=
 fn_ok z1lq (h := .no) Try.func58 (z0p [] (by kernel_rfl) trivial) (by kernel_rfl) z1je (fun x => by kernel_rfl)
def z1mu : Env := ⟨[], [], []⟩
theorem z1jl : EnvsOK Try.prog z1mu := ⟨z0x _, z0u _, z0t _⟩
def z14o : Shp := ⟨1, 0, [(0, .d .bool)], []⟩
def z1at : XS := .one .ret z14o.xe
theorem z1hi : z1at.OK := XS.one_ok (z0c z14o)
def zit (x : T0) : Option ((Bool)) :=
 bif eqI x.1 0 then
 some (eqI x.2 0)
 else
 some false
def zy7 : Sig := ⟨80, [.d c0], [], 0, z1at⟩
def zut (x : T0) : Option ((Bool)) := zit x
theorem z18z : FnOK Try.prog zy7 zut :=
 fn_ok z1jl (h := .no) Try.func80 (z0p [] (by kernel_rfl) trivial) (by kernel_rfl) z1hi (fun x => by kernel_rfl)
def z1mj : Env := ⟨[(entQ ztf zrn), (entQ zbh za7)], [], []⟩
theorem z13u : EnvsOK Try.prog z1mj := ⟨z0o (z0q zye) (z0o (z0q zc2) (z0x _)), z0u _, z0t _⟩
def zoe : Shp := ⟨36, 0, [], []⟩
def znz : Shp := ⟨36, 0, [(4, .d .bool)], []⟩
def zbx : XS := .or (.exit 0) zoe.xe (.one .ret znz.xe)
theorem zzb : zbx.OK := XS.or_ok (z0c zoe) (XS.one_ok (z0c znz))
def zc4 : Shp := ⟨36, 0, [(0, .d c4), (3, .pt 0 (.one (.arr 8 .leaf)) []), (5, .d (.int .i64))], [.var 25 (.d c1)]⟩
abbrev zj2 := (List T0) × Int × (List Int)
abbrev zqb := (Unit) ⊕ (Bool)
def zj7 (l : List T0) (i : Int) (t3 : List Int) : Option (zj2 ⊕ zqb) :=
 z0s (List.length l) (
 bif ltI i (List.length l : Nat) then
 (idxI l i).bind fun x =>
 (zll t3 x).bind fun r =>
 bif !r then
 some (.inr (.inr false))
 else
 bif ltI 0 i then
 (idxI l (W64 (i - 1))).bind fun x2 =>
 (idxI l i).bind fun x3 =>
 (zax x2 x3).bind fun r2 =>
 bif !r2 then
 some (.inr (.inr false))
 else
 some (.inl (l, W64 (i + 1), t3))
 else
 some (.inl (l, W64 (i + 1), t3))
 else
 some (.inr (.inl ())))
def z6y (s : zj2) : Option (zj2 ⊕ zqb) := zj7 s.1 s.2.1 s.2.2
theorem z12b : SoundD Try.prog (.loop (subC (bodyC Try.f81) [1, 0, 1, 0, 0])) (loopD zc4.xe zbx (loopC z6y)) :=
 z0w (S := zc4.xe) (X := zbx) z13u (h := .no) (z0p [] (by kernel_rfl) trivial) (z0c zc4) zzb z6y (fun s => by kernel_rfl)
def z13s : Shp := ⟨1, 0, [(0, .d .bool)], []⟩
def z1bc : XS := .one .ret z13s.xe
theorem z1hf : z1bc.OK := XS.one_ok (z0c z13s)
def zmq (l : List T0) (t1 : List Int) : Option ((Bool)) :=
 (loopC z6y (l, 0, t1)).bind fun o =>
 Sum.elim (fun y =>
 some true) (fun y2 =>
 some y2) o
def z1bj : Sig := ⟨81, [.d c4, .d c1], [], 0, z1bc⟩
def z18o (x : (List T0) × (List Int)) : Option ((Bool)) := zmq x.1 x.2
theorem z1ld : FnOK Try.prog z1bj z18o :=
 fn_ok z13u (h := (.two .no (.two (.two .no (.over (loopD zc4.xe zbx (loopC z6y)))) .no))) Try.func81 (z0p [.den (.loop (subC (bodyC Try.f81) [1, 0, 1, 0, 0])) (loopD zc4.xe zbx (loopC z6y))] (by kernel_rfl) ⟨z12b, trivial⟩) (by kernel_rfl) z1hf (fun x => by kernel_rfl)
def z1ni : Env := ⟨[], [], []⟩
theorem z14w : EnvsOK Try.prog z1ni := ⟨z0x _, z0u _, z0t _⟩
def zes : Shp := ⟨72, 0, [(0, .d .str), (3, .d (.int .i64)), (4, .d (.int .u8)), (5, .d .bool), (6, .d .bool), (7, .d .bool)], []⟩
def zbk : XS := .one .normal zes.xe
theorem zng : zbk.OK := XS.one_ok (z0c zes)
def zl0 : Shp := ⟨72, 0, [], []⟩
def zlg : Shp := ⟨72, 0, [(2, .d .bool)], []⟩
def zah : XS := .or (.exit 0) zl0.xe (.one .ret zlg.xe)
theorem zw0 : zah.OK := XS.or_ok (z0c zl0) (XS.one_ok (z0c zlg))
def zaj : Shp := ⟨72, 0, [(0, .d .str), (3, .d (.int .i64))], []⟩
abbrev zh4 := (List Int) × Int
abbrev znn := (Unit) ⊕ (Bool)
def zhb (t0 : List Int) (i : Int) : Option (zh4 ⊕ znn) :=
 z0s (List.length t0) (
 bif ltI i (List.length t0 : Nat) then
 (idxI t0 i).bind fun x =>
 (show Option (((List Int) × Int × Int × Bool × Bool × Bool)) from
 bif leI 97 x then
 bif leI 65 x then
 bif leI 48 x then
 some (t0, i, x, leI x 122, leI x 90, leI x 57)
 else
 some (t0, i, x, leI x 122, leI x 90, false)
 else
 bif leI 48 x then
 some (t0, i, x, leI x 122, false, leI x 57)
 else
 some (t0, i, x, leI x 122, false, false)
 else
 bif leI 65 x then
 bif leI 48 x then
 some (t0, i, x, false, leI x 90, leI x 57)
 else
 some (t0, i, x, false, leI x 90, false)
 else
 bif leI 48 x then
 some (t0, i, x, false, false, leI x 57)
 else
 some (t0, i, x, false, false, false)).bind fun j =>
 bif !j.2.2.2.1 then
 bif !j.2.2.2.2.1 then
 bif !j.2.2.2.2.2 then
 bif neI j.2.2.1 46 then
 bif neI j.2.2.1 95 then
 bif neI j.2.2.1 45 then
 some (.inr (.inr false))
 else
 some (.inl (j.1, W64 (j.2.1 + 1)))
 else
 some (.inl (j.1, W64 (j.2.1 + 1)))
 else
 some (.inl (j.1, W64 (j.2.1 + 1)))
 else
 some (.inl (j.1, W64 (j.2.1 + 1)))
 else
 some (.inl (j.1, W64 (j.2.1 + 1)))
 else
 some (.inl (j.1, W64 (j.2.1 + 1)))
 else
 some (.inr (.inl ())))
def z5k (s : zh4) : Option (zh4 ⊕ znn) := zhb s.1 s.2
theorem zyb : SoundD Try.prog (.loop (subC (bodyC Try.f82) [1, 1, 0, 1, 0, 0])) (loopD zaj.xe zah (loopC z5k)) :=
 z0w (S := zaj.xe) (X := zah) z14w (h := (.two .no (.two (.two .no (.join (fun _ => zbk) .no .no)) .no))) (z0p [.xs (fun _ => zbk)] (by kernel_rfl) ⟨(z2j zng), trivial⟩) (z0c zaj) zw0 z5k (fun s => by kernel_rfl)
def z12u : Shp := ⟨1, 0, [(0, .d .bool)], []⟩
def z1cb : XS := .one .ret z12u.xe
theorem z1gg : z1cb.OK := XS.one_ok (z0c z12u)
def zqg (t0 : List Int) : Option ((Bool)) :=
 bif eqS t0 ([] : List Int) then
 some false
 else
 z0s (List.length t0) (
 bif ltI 12 (List.length t0 : Nat) then
 some false
 else
 bif eqS t0 ([46] : List Int) then
 some false
 else
 bif eqS t0 ([46, 46] : List Int) then
 some false
 else
 (loopC z5k (t0, 0)).bind fun o =>
 Sum.elim (fun y =>
 some true) (fun y2 =>
 some y2) o)
def z19v : Sig := ⟨82, [.d .str], [], 0, z1cb⟩
def z17q (x : (List Int)) : Option ((Bool)) := zqg x
theorem z1ln : FnOK Try.prog z19v z17q :=
 fn_ok z14w (h := (.two .no (.two .no (.two (.two .no (.over (loopD zaj.xe zah (loopC z5k)))) .no)))) Try.func82 (z0p [.den (.loop (subC (bodyC Try.f82) [1, 1, 0, 1, 0, 0])) (loopD zaj.xe zah (loopC z5k))] (by kernel_rfl) ⟨zyb, trivial⟩) (by kernel_rfl) z1gg (fun x => by kernel_rfl)
def z1oe : Env := ⟨[(entQ zy7 zut)], [], []⟩
theorem z1iu : EnvsOK Try.prog z1oe := ⟨z0o (z0q z18z) (z0x _), z0u _, z0t _⟩
def z14x : Shp := ⟨1, 0, [(0, .d .bool)], []⟩
def z1a5 : XS := .one .ret z14x.xe
theorem z1ij : z1a5.OK := XS.one_ok (z0c z14x)
def zb5 (t0 : T1) (obj : Bool) (dir : Bool) (gone : Bool) (base : Bool) (off : Bool) (data : Bool) (ward : Bool) : Option ((Bool)) :=
 bif obj then
 bif dir then
 bif gone then
 bif base then
 bif off then
 bif data then
 bif ward then
 some true
 else
 some (eqI t0.2.2.2.2.2.2.2.2.2.2 0)
 else
 bif eqS t0.2.2.2.2.2.2.2.2.2.1 ([] : List Int) then
 bif ward then
 some true
 else
 some (eqI t0.2.2.2.2.2.2.2.2.2.2 0)
 else
 some false
 else
 bif eqI t0.2.2.2.2.2.2.2.2.1 0 then
 bif data then
 bif ward then
 some true
 else
 some (eqI t0.2.2.2.2.2.2.2.2.2.2 0)
 else
 bif eqS t0.2.2.2.2.2.2.2.2.2.1 ([] : List Int) then
 bif ward then
 some true
 else
 some (eqI t0.2.2.2.2.2.2.2.2.2.2 0)
 else
 some false
 else
 some false
 else
 z0s (List.length t0.2.2.2.2.2.2.2.1) (
 bif eqI (List.length t0.2.2.2.2.2.2.2.1 : Nat) 0 then
 bif off then
 bif data then
 bif ward then
 some true
 else
 some (eqI t0.2.2.2.2.2.2.2.2.2.2 0)
 else
 bif eqS t0.2.2.2.2.2.2.2.2.2.1 ([] : List Int) then
 bif ward then
 some true
 else
 some (eqI t0.2.2.2.2.2.2.2.2.2.2 0)
 else
 some false
 else
 bif eqI t0.2.2.2.2.2.2.2.2.1 0 then
 bif data then
 bif ward then
 some true
 else
 some (eqI t0.2.2.2.2.2.2.2.2.2.2 0)
 else
 bif eqS t0.2.2.2.2.2.2.2.2.2.1 ([] : List Int) then
 bif ward then
 some true
 else
 some (eqI t0.2.2.2.2.2.2.2.2.2.2 0)
 else
 some false
 else
 some false
 else
 some false)
 else
 z0s (List.length t0.2.2.2.2.2.2.1) (
 bif eqI (List.length t0.2.2.2.2.2.2.1 : Nat) 0 then
 bif base then
 bif off then
 bif data then
 bif ward then
 some true
 else
 some (eqI t0.2.2.2.2.2.2.2.2.2.2 0)
 else
 bif eqS t0.2.2.2.2.2.2.2.2.2.1 ([] : List Int) then
 bif ward then
 some true
 else
 some (eqI t0.2.2.2.2.2.2.2.2.2.2 0)
 else
 some false
 else
 bif eqI t0.2.2.2.2.2.2.2.2.1 0 then
 bif data then
 bif ward then
 some true
 else
 some (eqI t0.2.2.2.2.2.2.2.2.2.2 0)
 else
 bif eqS t0.2.2.2.2.2.2.2.2.2.1 ([] : List Int) then
 bif ward then
 some true
 else
 some (eqI t0.2.2.2.2.2.2.2.2.2.2 0)
 else
 some false
 else
 some false
 else
 z0s (List.length t0.2.2.2.2.2.2.2.1) (
 bif eqI (List.length t0.2.2.2.2.2.2.2.1 : Nat) 0 then
 bif off then
 bif data then
 bif ward then
 some true
 else
 some (eqI t0.2.2.2.2.2.2.2.2.2.2 0)
 else
 bif eqS t0.2.2.2.2.2.2.2.2.2.1 ([] : List Int) then
 bif ward then
 some true
 else
 some (eqI t0.2.2.2.2.2.2.2.2.2.2 0)
 else
 some false
 else
 bif eqI t0.2.2.2.2.2.2.2.2.1 0 then
 bif data then
 bif ward then
 some true
 else
 some (eqI t0.2.2.2.2.2.2.2.2.2.2 0)
 else
 bif eqS t0.2.2.2.2.2.2.2.2.2.1 ([] : List Int) then
 bif ward then
 some true
 else
 some (eqI t0.2.2.2.2.2.2.2.2.2.2 0)
 else
 some false
 else
 some false
 else
 some false)
 else
 some false)
 else
 (zit t0.2.2.2.2.1).bind fun r =>
 bif r then
 bif eqS t0.2.2.2.2.2.1 ([] : List Int) then
 bif gone then
 bif base then
 bif off then
 bif data then
 bif ward then
 some true
 else
 some (eqI t0.2.2.2.2.2.2.2.2.2.2 0)
 else
 bif eqS t0.2.2.2.2.2.2.2.2.2.1 ([] : List Int) then
 bif ward then
 some true
 else
 some (eqI t0.2.2.2.2.2.2.2.2.2.2 0)
 else
 some false
 else
 bif eqI t0.2.2.2.2.2.2.2.2.1 0 then
 bif data then
 bif ward then
 some true
 else
 some (eqI t0.2.2.2.2.2.2.2.2.2.2 0)
 else
 bif eqS t0.2.2.2.2.2.2.2.2.2.1 ([] : List Int) then
 bif ward then
 some true
 else
 some (eqI t0.2.2.2.2.2.2.2.2.2.2 0)
 else
 some false
 else
 some false
 else
 z0s (List.length t0.2.2.2.2.2.2.2.1) (
 bif eqI (List.length t0.2.2.2.2.2.2.2.1 : Nat) 0 then
 bif off then
 bif data then
 bif ward then
 some true
 else
 some (eqI t0.2.2.2.2.2.2.2.2.2.2 0)
 else
 bif eqS t0.2.2.2.2.2.2.2.2.2.1 ([] : List Int) then
 bif ward then
 some true
 else
 some (eqI t0.2.2.2.2.2.2.2.2.2.2 0)
 else
 some false
 else
 bif eqI t0.2.2.2.2.2.2.2.2.1 0 then
 bif data then
 bif ward then
 some true
 else
 some (eqI t0.2.2.2.2.2.2.2.2.2.2 0)
 else
 bif eqS t0.2.2.2.2.2.2.2.2.2.1 ([] : List Int) then
 bif ward then
 some true
 else
 some (eqI t0.2.2.2.2.2.2.2.2.2.2 0)
 else
 some false
 else
 some false
 else
 some false)
 else
 z0s (List.length t0.2.2.2.2.2.2.1) (
 bif eqI (List.length t0.2.2.2.2.2.2.1 : Nat) 0 then
 bif base then
 bif off then
 bif data then
 bif ward then
 some true
 else
 some (eqI t0.2.2.2.2.2.2.2.2.2.2 0)
 else
 bif eqS t0.2.2.2.2.2.2.2.2.2.1 ([] : List Int) then
 bif ward then
 some true
 else
 some (eqI t0.2.2.2.2.2.2.2.2.2.2 0)
 else
 some false
 else
 bif eqI t0.2.2.2.2.2.2.2.2.1 0 then
 bif data then
 bif ward then
 some true
 else
 some (eqI t0.2.2.2.2.2.2.2.2.2.2 0)
 else
 bif eqS t0.2.2.2.2.2.2.2.2.2.1 ([] : List Int) then
 bif ward then
 some true
 else
 some (eqI t0.2.2.2.2.2.2.2.2.2.2 0)
 else
 some false
 else
 some false
 else
 z0s (List.length t0.2.2.2.2.2.2.2.1) (
 bif eqI (List.length t0.2.2.2.2.2.2.2.1 : Nat) 0 then
 bif off then
 bif data then
 bif ward then
 some true
 else
 some (eqI t0.2.2.2.2.2.2.2.2.2.2 0)
 else
 bif eqS t0.2.2.2.2.2.2.2.2.2.1 ([] : List Int) then
 bif ward then
 some true
 else
 some (eqI t0.2.2.2.2.2.2.2.2.2.2 0)
 else
 some false
 else
 bif eqI t0.2.2.2.2.2.2.2.2.1 0 then
 bif data then
 bif ward then
 some true
 else
 some (eqI t0.2.2.2.2.2.2.2.2.2.2 0)
 else
 bif eqS t0.2.2.2.2.2.2.2.2.2.1 ([] : List Int) then
 bif ward then
 some true
 else
 some (eqI t0.2.2.2.2.2.2.2.2.2.2 0)
 else
 some false
 else
 some false
 else
 some false)
 else
 some false)
 else
 some false
 else
 some false
 else
 (zit t0.2.2.2.1).bind fun r2 =>
 bif r2 then
 bif dir then
 bif gone then
 bif base then
 bif off then
 bif data then
 bif ward then
 some true
 else
 some (eqI t0.2.2.2.2.2.2.2.2.2.2 0)
 else
 bif eqS t0.2.2.2.2.2.2.2.2.2.1 ([] : List Int) then
 bif ward then
 some true
 else
 some (eqI t0.2.2.2.2.2.2.2.2.2.2 0)
 else
 some false
 else
 bif eqI t0.2.2.2.2.2.2.2.2.1 0 then
 bif data then
 bif ward then
 some true
 else
 some (eqI t0.2.2.2.2.2.2.2.2.2.2 0)
 else
 bif eqS t0.2.2.2.2.2.2.2.2.2.1 ([] : List Int) then
 bif ward then
 some true
 else
 some (eqI t0.2.2.2.2.2.2.2.2.2.2 0)
 else
 some false
 else
 some false
 else
 z0s (List.length t0.2.2.2.2.2.2.2.1) (
 bif eqI (List.length t0.2.2.2.2.2.2.2.1 : Nat) 0 then
 bif off then
 bif data then
 bif ward then
 some true
 else
 some (eqI t0.2.2.2.2.2.2.2.2.2.2 0)
 else
 bif eqS t0.2.2.2.2.2.2.2.2.2.1 ([] : List Int) then
 bif ward then
 some true
 else
 some (eqI t0.2.2.2.2.2.2.2.2.2.2 0)
 else
 some false
 else
 bif eqI t0.2.2.2.2.2.2.2.2.1 0 then
 bif data then
 bif ward then
 some true
 else
 some (eqI t0.2.2.2.2.2.2.2.2.2.2 0)
 else
 bif eqS t0.2.2.2.2.2.2.2.2.2.1 ([] : List Int) then
 bif ward then
 some true
 else
 some (eqI t0.2.2.2.2.2.2.2.2.2.2 0)
 else
 some false
 else
 some false
 else
 some false)
 else
 z0s (List.length t0.2.2.2.2.2.2.1) (
 bif eqI (List.length t0.2.2.2.2.2.2.1 : Nat) 0 then
 bif base then
 bif off then
 bif data then
 bif ward then
 some true
 else
 some (eqI t0.2.2.2.2.2.2.2.2.2.2 0)
 else
 bif eqS t0.2.2.2.2.2.2.2.2.2.1 ([] : List Int) then
 bif ward then
 some true
 else
 some (eqI t0.2.2.2.2.2.2.2.2.2.2 0)
 else
 some false
 else
 bif eqI t0.2.2.2.2.2.2.2.2.1 0 then
 bif data then
 bif ward then
 some true
 else
 some (eqI t0.2.2.2.2.2.2.2.2.2.2 0)
 else
 bif eqS t0.2.2.2.2.2.2.2.2.2.1 ([] : List Int) then
 bif ward then
 some true
 else
 some (eqI t0.2.2.2.2.2.2.2.2.2.2 0)
 else
 some false
 else
 some false
 else
 z0s (List.length t0.2.2.2.2.2.2.2.1) (
 bif eqI (List.length t0.2.2.2.2.2.2.2.1 : Nat) 0 then
 bif off then
 bif data then
 bif ward then
 some true
 else
 some (eqI t0.2.2.2.2.2.2.2.2.2.2 0)
 else
 bif eqS t0.2.2.2.2.2.2.2.2.2.1 ([] : List Int) then
 bif ward then
 some true
 else
 some (eqI t0.2.2.2.2.2.2.2.2.2.2 0)
 else
 some false
 else
 bif eqI t0.2.2.2.2.2.2.2.2.1 0 then
 bif data then
 bif ward then
 some true
 else
 some (eqI t0.2.2.2.2.2.2.2.2.2.2 0)
 else
 bif eqS t0.2.2.2.2.2.2.2.2.2.1 ([] : List Int) then
 bif ward then
 some true
 else
 some (eqI t0.2.2.2.2.2.2.2.2.2.2 0)
 else
 some false
 else
 some false
 else
 some false)
 else
 some false)
 else
 (zit t0.2.2.2.2.1).bind fun r3 =>
 bif r3 then
 bif eqS t0.2.2.2.2.2.1 ([] : List Int) then
 bif gone then
 bif base then
 bif off then
 bif data then
 bif ward then
 some true
 else
 some (eqI t0.2.2.2.2.2.2.2.2.2.2 0)
 else
 bif eqS t0.2.2.2.2.2.2.2.2.2.1 ([] : List Int) then
 bif ward then
 some true
 else
 some (eqI t0.2.2.2.2.2.2.2.2.2.2 0)
 else
 some false
 else
 bif eqI t0.2.2.2.2.2.2.2.2.1 0 then
 bif data then
 bif ward then
 some true
 else
 some (eqI t0.2.2.2.2.2.2.2.2.2.2 0)
 else
 bif eqS t0.2.2.2.2.2.2.2.2.2.1 ([] : List Int) then
 bif ward then
 some true
 else
 some (eqI t0.2.2.2.2.2.2.2.2.2.2 0)
 else
 some false
 else
 some false
 else
 z0s (List.length t0.2.2.2.2.2.2.2.1) (
 bif eqI (List.length t0.2.2.2.2.2.2.2.1 : Nat) 0 then
 bif off then
 bif data then
 bif ward then
 some true
 else
 some (eqI t0.2.2.2.2.2.2.2.2.2.2 0)
 else
 bif eqS t0.2.2.2.2.2.2.2.2.2.1 ([] : List Int) then
 bif ward then
 some true
 else
 some (eqI t0.2.2.2.2.2.2.2.2.2.2 0)
 else
 some false
 else
 bif eqI t0.2.2.2.2.2.2.2.2.1 0 then
 bif data then
 bif ward then
 some true
 else
 some (eqI t0.2.2.2.2.2.2.2.2.2.2 0)
 else
 bif eqS t0.2.2.2.2.2.2.2.2.2.1 ([] : List Int) then
 bif ward then
 some true
 else
 some (eqI t0.2.2.2.2.2.2.2.2.2.2 0)
 else
 some false
 else
 some false
 else
 some false)
 else
 z0s (List.length t0.2.2.2.2.2.2.1) (
 bif eqI (List.length t0.2.2.2.2.2.2.1 : Nat) 0 then
 bif base then
 bif off then
 bif data then
 bif ward then
 some true
 else
 some (eqI t0.2.2.2.2.2.2.2.2.2.2 0)
 else
 bif eqS t0.2.2.2.2.2.2.2.2.2.1 ([] : List Int) then
 bif ward then
 some true
 else
 some (eqI t0.2.2.2.2.2.2.2.2.2.2 0)
 else
 some false
 else
 bif eqI t0.2.2.2.2.2.2.2.2.1 0 then
 bif data then
 bif ward then
 some true
 else
 some (eqI t0.2.2.2.2.2.2.2.2.2.2 0)
 else
 bif eqS t0.2.2.2.2.2.2.2.2.2.1 ([] : List Int) then
 bif ward then
 some true
 else
 some (eqI t0.2.2.2.2.2.2.2.2.2.2 0)
 else
 some false
 else
 some false
 else
 z0s (List.length t0.2.2.2.2.2.2.2.1) (
 bif eqI (List.length t0.2.2.2.2.2.2.2.1 : Nat) 0 then
 bif off then
 bif data then
 bif ward then
 some true
 else
 some (eqI t0.2.2.2.2.2.2.2.2.2.2 0)
 else
 bif eqS t0.2.2.2.2.2.2.2.2.2.1 ([] : List Int) then
 bif ward then
 some true
 else
 some (eqI t0.2.2.2.2.2.2.2.2.2.2 0)
 else
 some false
 else
 bif eqI t0.2.2.2.2.2.2.2.2.1 0 then
 bif data then
 bif ward then
 some true
 else
 some (eqI t0.2.2.2.2.2.2.2.2.2.2 0)
 else
 bif eqS t0.2.2.2.2.2.2.2.2.2.1 ([] : List Int) then
 bif ward then
 some true
 else
 some (eqI t0.2.2.2.2.2.2.2.2.2.2 0)
 else
 some false
 else
 some false
 else
 some false)
 else
 some false)
 else
 some false
 else
 some false
 else
 some false
def z1az : Sig := ⟨83, [.d c9, .d .bool, .d .bool, .d .bool, .d .bool, .d .bool, .d .bool, .d .bool], [], 0, z1a5⟩
def z17n (x : T1 × Bool × Bool × Bool × Bool × Bool × Bool × Bool) : Option ((Bool)) := zb5 x.1 x.2.1 x.2.2.1 x.2.2.2.1 x.2.2.2.2.1 x.2.2.2.2.2.1 x.2.2.2.2.2.2.1 x.2.2.2.2.2.2.2
theorem z1lm : FnOK Try.prog z1az z17n :=
 fn_ok z1iu (h := .no) Try.func83 (z0p [] (by kernel_rfl) trivial) (by kernel_rfl) z1ij (fun x => by kernel_rfl)
def z1m0 : Env := ⟨[(entQ zo5 zlt), (entQ ztf zrn), (entQ zy7 zut), (entQ z1bj z18o), (entQ z19v z17q), (entQ z1az z17n)], [], []⟩
theorem z10r : EnvsOK Try.prog z1m0 := ⟨z0o (z0q zrr) (z0o (z0q zye) (z0o (z0q z18z) (z0o (z0q z1ld) (z0o (z0q z1ln) (z0o (z0q z1lm) (z0x _)))))), z0u _, z0t _⟩
def zkg : Shp := ⟨233, 0, [(1, .pt 0 r8 [])], [.var 67 (.d c9)]⟩
def zkp : Shp := ⟨233, 0, [(2, .d .bool)], []⟩
def z9x : XS := .or (.exit 0) zkg.xe (.one .ret zkp.xe)
theorem zv6 : z9x.OK := XS.or_ok (z0c zkg) (XS.one_ok (z0c zkp))
def z9t : Shp := ⟨233, 0, [(1, .pt 0 r8 []), (3, .d (.int .i64))], [.var 67 (.d c9)]⟩
abbrev zfn := Int × T1
abbrev zn8 := (T1) ⊕ (Bool)
def zfk (i : Int) (t1 : T1) : Option (zfn ⊕ zn8) :=
 bif ltI i 8 then
 bif inI i 8 then
 (t1.2.1[i.toNat]?).bind fun x =>
 bif ltI 1048576 x then
 some (.inr (.inr false))
 else
 some (.inl (W64 (i + 1), t1))
 else none
 else
 some (.inr (.inl t1))
def z3p (s : zfn) : Option (zfn ⊕ zn8) := zfk s.1 s.2
theorem zwd : SoundD Try.prog (.loop (subC (bodyC Try.f57) [1, 1, 0, 1, 0, 0])) (loopD z9t.xe z9x (loopC z3p)) :=
 z0w (S := z9t.xe) (X := z9x) z10r (h := .no) (z0p [] (by kernel_rfl) trivial) (z0c z9t) zv6 z3p (fun s => by kernel_rfl)
def zr9 : Shp := ⟨233, 0, [(1, .pt 0 r8 []), (4, .d .bool), (5, .d .bool)], [.var 67 (.d c9)]⟩
def zlj : XS := .one .normal zr9.xe
theorem z12v : zlj.OK := XS.one_ok (z0c zr9)
def znk : Shp := ⟨233, 0, [(1, .pt 0 r8 []), (4, .d .bool), (5, .d .bool), (6, .d .bool), (7, .d .bool)], [.var 67 (.d c9)]⟩
def zjg : XS := .one .normal znk.xe
theorem zzi : zjg.OK := XS.one_ok (z0c znk)
def zl3 : Shp := ⟨233, 0, [(1, .pt 0 r8 []), (4, .d .bool), (5, .d .bool), (6, .d .bool), (7, .d .bool), (8, .d .bool)], [.var 67 (.d c9)]⟩
def zgw : XS := .one .normal zl3.xe
theorem zwn : zgw.OK := XS.one_ok (z0c zl3)
def zfb : Shp := ⟨233, 0, [(1, .pt 0 r8 []), (4, .d .bool), (5, .d .bool), (6, .d .bool), (7, .d .bool), (8, .d .bool), (93, .d (.int .i64)), (94, .d .bool)], [.var 67 (.d c9)]⟩
def zbt : XS := .one .normal zfb.xe
theorem zod : zbt.OK := XS.one_ok (z0c zfb)
def z10i : Shp := ⟨1, 0, [(0, .d .bool)], []⟩
def z18p : XS := .one .ret z10i.xe
theorem z1fp : z18p.OK := XS.one_ok (z0c z10i)
def ztj (t0 : T1) : Option ((Bool)) :=
 bif ltI t0.1.1 1 then
 some false
 else
 bif ltI 8 t0.1.1 then
 some false
 else
 bif ltI t0.1.2 1 then
 some false
 else
 bif ltI 1048576 t0.1.2 then
 some false
 else
 (zm6 t0.2.1 t0.1.1).bind fun r =>
 bif neI (WU32 (r + 1)) t0.1.2 then
 some false
 else
 (loopC z3p (0, t0)).bind fun o =>
 Sum.elim (fun y =>
 (show Option ((Bool × Bool × T1)) from
 (zll y.2.1 y.2.2.2.1).bind fun r2 =>
 (zit y.2.2.2.2.1).bind fun r3 =>
 bif r3 then
 some (r2, true, y)
 else
 (zll y.2.1 y.2.2.2.2.1).bind fun r4 =>
 some (r2, r4, y)).bind fun j =>
 (show Option ((Bool × Bool × Bool × Bool × T1)) from
 z0s (List.length j.2.2.2.2.2.2.2.2.1) (
 bif leI (List.length j.2.2.2.2.2.2.2.2.1 : Nat) 8 then
 (zmq j.2.2.2.2.2.2.2.2.1 j.2.2.2.1).bind fun r5 =>
 (zmq j.2.2.2.2.2.2.2.2.2.1 j.2.2.2.1).bind fun r6 =>
 some (j.1, j.2.1, r5, r6, j.2.2)
 else
 (zmq j.2.2.2.2.2.2.2.2.2.1 j.2.2.2.1).bind fun r7 =>
 some (j.1, j.2.1, false, r7, j.2.2))).bind fun j2 =>
 (show Option ((Bool × Bool × Bool × Bool × Bool × T1)) from
 bif leI 0 j2.2.2.2.2.2.2.2.2.2.2.2.2.1 then
 some (j2.1, j2.2.1, j2.2.2.1, j2.2.2.2.1, leI j2.2.2.2.2.2.2.2.2.2.2.2.2.1 200, j2.2.2.2.2)
 else
 some (j2.1, j2.2.1, j2.2.2.1, j2.2.2.2.1, false, j2.2.2.2.2)).bind fun j3 =>
 (show Option ((Bool × Bool × Bool × Bool × Bool × Int × Bool × T1)) from
 bif eqI j3.2.2.2.2.2.2.2.1 1 then
 some (j3.1, j3.2.1, j3.2.2.1, j3.2.2.2.1, j3.2.2.2.2.1, j3.2.2.2.2.2.2.2.1, eqI j3.2.2.2.2.2.2.2.1 1, j3.2.2.2.2.2)
 else
 some (j3.1, j3.2.1, j3.2.2.1, j3.2.2.2.1, j3.2.2.2.2.1, j3.2.2.2.2.2.2.2.1, eqI j3.2.2.2.2.2.2.2.1 2, j3.2.2.2.2.2)).bind fun j4 =>
 bif j4.2.2.2.2.2.2.1 then
 bif j4.2.1 then
 (zqg j4.2.2.2.2.2.2.2.2.2.2.2.2.1).bind fun r8 =>
 bif r8 then
 (zb5 j4.2.2.2.2.2.2.2 false true false false false false false).bind fun r9 =>
 some r9
 else
 some false
 else
 some false
 else
 bif eqI j4.2.2.2.2.2.1 3 then
 bif j4.1 then
 bif j4.2.2.2.1 then
 z0s (List.length j4.2.2.2.2.2.2.2.2.2.2.2.2.2.2.1) (
 bif leI (List.length j4.2.2.2.2.2.2.2.2.2.2.2.2.2.2.1 : Nat) 1 then
 bif j4.2.2.2.2.1 then
 bif !(eqS j4.2.2.2.2.2.2.2.2.2.2.2.2.2.2.2.2.1 ([] : List Int)) then
 z0s (List.length j4.2.2.2.2.2.2.2.2.2.2.2.2.2.2.2.2.1) (
 bif leI (List.length j4.2.2.2.2.2.2.2.2.2.2.2.2.2.2.2.2.1 : Nat) (W64 (200 - j4.2.2.2.2.2.2.2.2.2.2.2.2.2.2.2.1)) then
 (zb5 j4.2.2.2.2.2.2.2 true false false true true true false).bind fun r10 =>
 some r10
 else
 some false)
 else
 some false
 else
 some false
 else
 some false)
 else
 some false
 else
 some false
 else
 bif eqI j4.2.2.2.2.2.1 4 then
 bif j4.1 then
 bif j4.2.2.2.1 then
 z0s (List.length j4.2.2.2.2.2.2.2.2.2.2.2.2.2.2.1) (
 bif leI (List.length j4.2.2.2.2.2.2.2.2.2.2.2.2.2.2.1 : Nat) 1 then
 bif j4.2.2.2.2.1 then
 (zb5 j4.2.2.2.2.2.2.2 true false false true true false false).bind fun r11 =>
 some r11
 else
 some false
 else
 some false)
 else
 some false
 else
 some false
 else
 bif eqI j4.2.2.2.2.2.1 5 then
 bif j4.1 then
 bif j4.2.2.2.1 then
 z0s (List.length j4.2.2.2.2.2.2.2.2.2.2.2.2.2.2.1) (
 bif leI 2 (List.length j4.2.2.2.2.2.2.2.2.2.2.2.2.2.2.1 : Nat) then
 z0s (List.length j4.2.2.2.2.2.2.2.2.2.2.2.2.2.2.1) (
 bif leI (List.length j4.2.2.2.2.2.2.2.2.2.2.2.2.2.2.1 : Nat) 8 then
 z0s (List.length j4.2.2.2.2.2.2.2.2.2.2.2.2.2.2.2.2.1) (
 bif leI (List.length j4.2.2.2.2.2.2.2.2.2.2.2.2.2.2.2.2.1 : Nat) 200 then
 (zb5 j4.2.2.2.2.2.2.2 true false false true false true false).bind fun r12 =>
 some r12
 else
 some false)
 else
 some false)
 else
 some false)
 else
 some false
 else
 some false
 else
 bif eqI j4.2.2.2.2.2.1 6 then
 bif j4.1 then
 bif j4.2.2.1 then
 (zb5 j4.2.2.2.2.2.2.2 true false true false false false false).bind fun r13 =>
 some r13
 else
 some false
 else
 some false
 else
 bif eqI j4.2.2.2.2.2.1 7 then
 bif j4.1 then
 bif j4.2.2.1 then
 bif j4.2.1 then
 (zqg j4.2.2.2.2.2.2.2.2.2.2.2.2.1).bind fun r14 =>
 bif r14 then
 (zb5 j4.2.2.2.2.2.2.2 true true true false false false false).bind fun r15 =>
 some r15
 else
 some false
 else
 some false
 else
 some false
 else
 some false
 else
 bif eqI j4.2.2.2.2.2.1 8 then
 bif leI 1 j4.2.2.2.2.2.2.2.2.2.2.2.2.2.2.2.2.2 then
 bif leI j4.2.2.2.2.2.2.2.2.2.2.2.2.2.2.2.2.2 4 then
 (zb5 j4.2.2.2.2.2.2.2 false false false false false false true).bind fun r16 =>
 some r16
 else
 some false
 else
 some false
 else
 bif eqI j4.2.2.2.2.2.1 9 then
 (zb5 j4.2.2.2.2.2.2.2 false false false false false false false).bind fun r17 =>
 some r17
 else
 some false) (fun y2 =>
 some y2) o
def z17i : Sig := ⟨57, [.d c9], [], 0, z18p⟩
def z12t (x : T1) : Option ((Bool)) := ztj x
theorem z1ir : FnOK Try.prog z17i z12t :=
 fn_ok z10r (h := (.two .no (.two .no (.two (.two .no (.over (loopD z9t.xe z9x (loopC z3p)))) (.join (fun _ => zlj) .no (.join (fun _ => zjg) .no (.join (fun _ => zgw) .no (.two (.two .no (.join (fun _ => zbt) .no .no)) .no)))))))) Try.func57 (z0p [.den (.loop (subC (bodyC Try.f57) [1, 1, 0, 1, 0, 0])) (loopD z9t.xe z9x (loopC z3p)), .xs (fun _ => zlj), .xs (fun _ => zjg), .xs (fun _ => zgw), .xs (fun _ => zbt)] (by kernel_rfl) ⟨zwd, (z2j z12v), (z2j zzi), (z2j zwn), (z2j zod), trivial⟩) (by kernel_rfl) z1fp (fun x => by kernel_rfl)
def z1nx : Env := ⟨[], [], []⟩
theorem z1iw : EnvsOK Try.prog z1nx := ⟨z0x _, z0u _, z0t _⟩
def z14h : Shp := ⟨1, 0, [(0, .d .bool)], []⟩
def z1ab : XS := .one .ret z14h.xe
theorem z1hg : z1ab.OK := XS.one_ok (z0c z14h)
def zvz (x : T0) : Option ((Bool)) :=
 bif eqI x.1 0 then
 some (eqI x.2 0)
 else
 some false
def z1br : Sig := ⟨84, [.d c0], [], 0, z1ab⟩
def z18l (x : T0) : Option ((Bool)) := zvz x
theorem z1lb : FnOK Try.prog z1br z18l :=
 fn_ok z1iw (h := .no) Try.func84 (z0p [] (by kernel_rfl) trivial) (by kernel_rfl) z1hg (fun x => by kernel_rfl)
def z1jp : Env := ⟨[], [], []⟩
theorem zyk : EnvsOK Try.prog z1jp := ⟨z0x _, z0u _, z0t _⟩
def zm1 : Shp := ⟨28, 0, [(4, .pt 0 r13 [])], [.var 49 (.d c14)]⟩
def zlc : Shp := ⟨28, 0, [(4, .pt 0 r13 []), (5, .d .bool)], [.var 49 (.d c14)]⟩
def zaq : XS := .or (.exit 0) zm1.xe (.one .ret zlc.xe)
theorem zwl : zaq.OK := XS.or_ok (z0c zm1) (XS.one_ok (z0c zlc))
def zav : Shp := ⟨28, 0, [(2, .pt 0 r15 []), (3, .pt 1 r2 []), (4, .pt 2 r13 []), (6, .d (.int .i64))], [.var 33 (.d c17), .var 43 (.d c0), .var 49 (.d c14)]⟩
abbrev zh9 := Int × T5 × T0 × T4
abbrev zoc := (T4) ⊕ (Bool × T4)
def zgu (i : Int) (t2 : T5) (id : T0) (t4 : T4) : Option (zh9 ⊕ zoc) :=
 z0s (List.length t2.2.1) (
 bif ltI i (List.length t2.2.1 : Nat) then
 (idxI t2.2.1 i).bind fun x =>
 bif eqU c0 x.1 id then
 (idxI t2.2.1 i).bind fun x2 =>
 some (.inr (.inr (true, x2)))
 else
 some (.inl (W64 (i + 1), t2, id, t4))
 else
 some (.inr (.inl t4)))
def z5e (s : zh9) : Option (zh9 ⊕ zoc) := zgu s.1 s.2.1 s.2.2.1 s.2.2.2
theorem zz1 : SoundD Try.prog (.loop (subC (bodyC Try.f19) [1, 0, 1, 0, 0])) (loopD zav.xe zaq (loopC z5e)) :=
 z0w (S := zav.xe) (X := zaq) zyk (h := .no) (z0p [] (by kernel_rfl) trivial) (z0c zav) zwl z5e (fun s => by kernel_rfl)
def zz7 : Shp := ⟨1, 0, [(0, .tu [.d c14, .d .bool])], []⟩
def z13n : XS := .one .ret zz7.xe
theorem z1d5 : z13n.OK := XS.one_ok (z0c zz7)
def zle (t0 : T5) (id : T0) : Option ((T4 × Bool)) :=
 (loopC z5e (0, t0, id, ((0, 0), false, (0, 0), [], List.replicate 8 (0 : Int), []))).bind fun o =>
 Sum.elim (fun y =>
 some (((0, 0), false, (0, 0), [], List.replicate 8 (0 : Int), []), false)) (fun y2 =>
 some (y2.2, y2.1)) o
def zso : Sig := ⟨19, [.d c17, .d c0], [], 0, z13n⟩
def zrc (x : T5 × T0) : Option ((T4 × Bool)) := zle x.1 x.2
theorem zzm : FnOK Try.prog zso zrc :=
 fn_ok zyk (h := (.two .no (.two (.two .no (.over (loopD zav.xe zaq (loopC z5e)))) .no))) Try.func19 (z0p [.den (.loop (subC (bodyC Try.f19) [1, 0, 1, 0, 0])) (loopD zav.xe zaq (loopC z5e))] (by kernel_rfl) ⟨zz1, trivial⟩) (by kernel_rfl) z1d5 (fun x => by kernel_rfl)
def z1pg : Env := ⟨[(entQ z1br z18l), (entQ zso zrc)], [], []⟩
theorem z1lx : EnvsOK Try.prog z1pg := ⟨z0o (z0q z1lb) (z0o (z0q zzm) (z0x _)), z0u _, z0t _⟩
def z18d : Shp := ⟨1, 0, [(0, .d (.int .i64))], []⟩
def z1dz : XS := .one .ret z18d.xe
theorem z1ix : z1dz.OK := XS.one_ok (z0c z18d)
def ztq (t0 : T5) (id : T0) : Option ((Int)) :=
 (zvz id).bind fun r =>
 bif r then
 some 0
 else
 (zle t0 id).bind fun r2 =>
 bif !r2.2 then
 some 2
 else
 bif !r2.1.2.1 then
 some 22
 else
 some 0
def z1ea : Sig := ⟨59, [.d c17, .d c0], [], 0, z1dz⟩
def z1an (x : T5 × T0) : Option ((Int)) := ztq x.1 x.2
theorem z1mm : FnOK Try.prog z1ea z1an :=
 fn_ok z1lx (h := .no) Try.func59 (z0p [] (by kernel_rfl) trivial) (by kernel_rfl) z1ix (fun x => by kernel_rfl)
end Go.Proofs.Ytfbdjicfkcklfaa