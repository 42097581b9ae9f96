import Derived.Test.YtfbdjicfkcklfaaTm21to25
import Derived.Test.YtfbdjicfkcklfaaProg
set_option maxRecDepth 100000
set_option linter.unusedVariables false
noncomputable section
namespace Go.Proofs.Ytfbdjicfkcklfaa
open Go.Tm Go.Ab
abbrev T0 := Int × Int
abbrev T1 := T0 × (List Int) × Int × T0 × T0 × (List Int) × (List T0) × (List T0) × Int × (List Int) × Int
abbrev T2 := T0 × T0 × (List Int) × T0 × (List Int)
abbrev T3 := T0 × (List Int) × (List Int)
abbrev T4 := T0 × Bool × T0 × (List Int) × (List Int) × (List T3)
abbrev T5 := (List Int) × (List T4) × (List T2) × (List Int) × (List Bool)
abbrev T6 := (List Int) × (List Int)
def c0 : U := (.st (.cons (.int .i64) (.one (.int .u32))))
def c1 : U := (.arr 8 (.int .u32))
def r2 : Rt := .one (.st (.cons .leaf (.one .leaf)))
def c3 : U := (.sl (.st (.cons (.st (.cons (.int .i64) (.one (.int .u32)))) (.cons (.arr 8 (.int .u32)) (.cons (.int .i64) (.cons (.st (.cons (.int .i64) (.one (.int .u32)))) (.cons (.st (.cons (.int .i64) (.one (.int .u32)))) (.cons .str (.cons (.sl (.st (.cons (.int .i64) (.one (.int .u32))))) (.cons (.sl (.st (.cons (.int .i64) (.one (.int .u32))))) (.cons (.int .i64) (.cons .str (.one (.int .i64))))))))))))))
def c4 : U := (.sl (.st (.cons (.int .i64) (.one (.int .u32)))))
def c5 : U := (.sl (.st (.cons (.st (.cons (.int .i64) (.one (.int .u32)))) (.cons (.st (.cons (.int .i64) (.one (.int .u32)))) (.cons .str (.cons (.st (.cons (.int .i64) (.one (.int .u32)))) (.one (.arr 8 (.int .u32)))))))))
def c6 : U := (.st (.cons (.st (.cons (.int .i64) (.one (.int .u32)))) (.cons (.st (.cons (.int .i64) (.one (.int .u32)))) (.cons .str (.cons (.st (.cons (.int .i64) (.one (.int .u32)))) (.one (.arr 8 (.int .u32))))))))
def r7 : Rt := .one (.st (.cons (.st (.cons .leaf (.one .leaf))) (.cons (.st (.cons .leaf (.one .leaf))) (.cons .leaf (.cons (.st (.cons .leaf (.one .leaf))) (.one (.arr 8 .leaf)))))))
def r8 : Rt := .one (.st (.cons (.st (.cons .leaf (.one .leaf))) (.cons (.arr 8 .leaf) (.cons .leaf (.cons (.st (.cons .leaf (.one .leaf))) (.cons (.st (.cons .leaf (.one .leaf))) (.cons .leaf (.cons .leaf (.cons .leaf (.cons .leaf (.cons .leaf (.one .leaf))))))))))))
def c9 : U := (.st (.cons (.st (.cons (.int .i64) (.one (.int .u32)))) (.cons (.arr 8 (.int .u32)) (.cons (.int .i64) (.cons (.st (.cons (.int .i64) (.one (.int .u32)))) (.cons (.st (.cons (.int .i64) (.one (.int .u32)))) (.cons .str (.cons (.sl (.st (.cons (.int .i64) (.one (.int .u32))))) (.cons (.sl (.st (.cons (.int .i64) (.one (.int .u32))))) (.cons (.int .i64) (.cons .str (.one (.int .i64)))))))))))))
def c10 : U := (.sl (.st (.cons (.st (.cons (.int .i64) (.one (.int .u32)))) (.cons .str (.one (.arr 8 (.int .u32)))))))
def c11 : U := (.st (.cons (.st (.cons (.int .i64) (.one (.int .u32)))) (.cons .str (.one (.arr 8 (.int .u32))))))
def r12 : Rt := .one (.st (.cons (.st (.cons .leaf (.one .leaf))) (.cons .leaf (.one (.arr 8 .leaf)))))
def r13 : Rt := .one (.st (.cons (.st (.cons .leaf (.one .leaf))) (.cons .leaf (.cons (.st (.cons .leaf (.one .leaf))) (.cons .leaf (.cons (.arr 8 .leaf) (.one .leaf)))))))
def c14 : U := (.st (.cons (.st (.cons (.int .i64) (.one (.int .u32)))) (.cons .bool (.cons (.st (.cons (.int .i64) (.one (.int .u32)))) (.cons .str (.cons (.arr 8 (.int .u32)) (.one (.sl (.st (.cons (.st (.cons (.int .i64) (.one (.int .u32)))) (.cons .str (.one (.arr 8 (.int .u32))))))))))))))
def r15 : Rt := .one (.st (.cons (.arr 8 .leaf) (.cons .leaf (.cons .leaf (.cons (.arr 8 .leaf) (.one (.arr 8 .leaf)))))))
def c16 : U := (.arr 8 (.int .i64))
def c17 : U := (.st (.cons (.arr 8 (.int .u32)) (.cons (.sl (.st (.cons (.st (.cons (.int .i64) (.one (.int .u32)))) (.cons .bool (.cons (.st (.cons (.int .i64) (.one (.int .u32)))) (.cons .str (.cons (.arr 8 (.int .u32)) (.one (.sl (.st (.cons (.st (.cons (.int .i64) (.one (.int .u32)))) (.cons .str (.one (.arr 8 (.int .u32))))))))))))))) (.cons (.sl (.st (.cons (.st (.cons (.int .i64) (.one (.int .u32)))) (.cons (.st (.cons (.int .i64) (.one (.int .u32)))) (.cons .str (.cons (.st (.cons (.int .i64) (.one (.int .u32)))) (.one (.arr 8 (.int .u32))))))))) (.cons (.arr 8 (.int .i64)) (.one (.arr 8 .bool)))))))
def c18 : U := (.sl (.st (.cons (.st (.cons (.int .i64) (.one (.int .u32)))) (.cons .bool (.cons (.st (.cons (.int .i64) (.one (.int .u32)))) (.cons .str (.cons (.arr 8 (.int .u32)) (.one (.sl (.st (.cons (.st (.cons (.int .i64) (.one (.int .u32)))) (.cons .str (.one (.arr 8 (.int .u32)))))))))))))))
def c19 : U := (.arr 8 (.arr 8 (.int .u32)))
def c20 : U := (.st (.cons (.arr 8 (.int .u32)) (.one (.arr 8 (.int .u32)))))
def r21 : Rt := .one (.arr 8 (.arr 8 .leaf))
def z1i9 : Env := ⟨[], [], []⟩
theorem z10a : EnvsOK Try.prog z1i9 := ⟨z0x _, z0t _, z0u _⟩
def zjh : Shp := ⟨20, 0, [(2, .pt 0 (.one (.arr 8 .leaf)) []), (3, .pt 1 (.one (.arr 8 .leaf)) [])], [.var 25 (.d c1), .var 25 (.d c1)]⟩
def z9n : XS := .one (.exit 0) zjh.xe
theorem zsh : z9n.OK := XS.one_ok (z0c zjh)
def z9k : Shp := ⟨20, 0, [(1, .pt 0 r2 []), (2, .pt 1 (.one (.arr 8 .leaf)) []), (3, .pt 2 (.one (.arr 8 .leaf)) []), (4, .d (.int .i64))], [.var 43 (.d c0), .var 25 (.d c1), .var 25 (.d c1)]⟩
abbrev zf1 := Int × T0 × (List Int) × (List Int)
abbrev zm1 := ((List Int) × (List Int))
def zf2 (i : Int) (id : T0) (t2 : List Int) (out : List Int) : Option (zf1 ⊕ zm1) :=
 bif ltI i 8 then
 bif eqI (W64 (i + 1)) id.1 then
 bif inI i 8 then
 (out[i.toNat]?).bind fun _x =>
 some (.inl (W64 (i + 1), id, t2, out.set i.toNat id.2))
 else none
 else
 some (.inl (W64 (i + 1), id, t2, out))
 else
 some (.inr (t2, out))
def z4l (s : zf1) : Option (zf1 ⊕ zm1) := zf2 s.1 s.2.1 s.2.2.1 s.2.2.2
theorem zu1 : SoundD Try.prog (.loop (subC (bodyC Try.f56) [1, 1, 0, 1, 0, 0])) (loopD z9k.xe z9n (loopC z4l)) :=
 z0w (S := z9k.xe) (X := z9n) z10a (h := .no) (z0o [] (by kernel_rfl) trivial) (z0c z9k) zsh z4l (fun s => by kernel_rfl)
def z11e : Shp := ⟨1, 0, [(0, .d c1)], []⟩
def z17j : XS := .one .ret z11e.xe
theorem z1ca : z17j.OK := XS.one_ok (z0c z11e)
def zvj (id : T0) : Option (((List Int))) :=
 (loopC z4l (0, id, List.replicate 8 (0 : Int), List.replicate 8 (0 : Int))).bind fun o =>
 some o.2
def z17q : Sig := ⟨56, [.d c0], [], 0, z17j⟩
def z15b (x : T0) : Option (((List Int))) := zvj x
theorem z1h7 : FnOK Try.prog z17q z15b :=
 fn_ok z10a (h := (.two .no (.two .no (.two (.two .no (.over (loopD z9k.xe z9n (loopC z4l)))) .no)))) Try.func56 (z0o [.den (.loop (subC (bodyC Try.f56) [1, 1, 0, 1, 0, 0])) (loopD z9k.xe z9n (loopC z4l))] (by kernel_rfl) ⟨zu1, trivial⟩) (by kernel_rfl) z1ca (fun x => by kernel_rfl)
def z1i2 : Env := ⟨[], [], []⟩
theorem zx9 : EnvsOK Try.prog z1i2 := ⟨z0x _, z0t _, z0u _⟩
def zhz : Shp := ⟨30, 0, [(4, .pt 0 (.one (.arr 8 .leaf)) []), (5, .pt 1 (.one (.arr 8 .leaf)) [])], [.var 25 (.d c1), .var 25 (.d c1)]⟩
def z9b : XS := .one (.exit 0) zhz.xe
theorem zr7 : z9b.OK := XS.one_ok (z0c zhz)
def z8o : Shp := ⟨30, 0, [(2, .pt 0 (.one (.arr 8 .leaf)) []), (3, .pt 1 (.one (.arr 8 .leaf)) []), (4, .pt 2 (.one (.arr 8 .leaf)) []), (5, .pt 3 (.one (.arr 8 .leaf)) []), (6, .d (.int .i64))], [.var 25 (.d c1), .var 25 (.d c1), .var 25 (.d c1), .var 25 (.d c1)]⟩
abbrev ze9 := Int × (List Int) × (List Int) × (List Int) × (List Int)
abbrev zk6 := ((List Int) × (List Int))
def zeh (i : Int) (a : List Int) (b : List Int) (t4 : List Int) (out : List Int) : Option (ze9 ⊕ zk6) :=
 bif ltI i 8 then
 bif inI i 8 then
 (a[i.toNat]?).bind fun x =>
 bif inI i 8 then
 (out[i.toNat]?).bind fun _x =>
 bif inI i 8 then
 (b[i.toNat]?).bind fun x2 =>
 bif inI i 8 then
 (a[i.toNat]?).bind fun x3 =>
 bif ltI x3 x2 then
 bif inI i 8 then
 (b[i.toNat]?).bind fun x4 =>
 bif inI i 8 then
 ((out.set i.toNat x)[i.toNat]?).bind fun _x2 =>
 some (.inl (W64 (i + 1), a, b, t4, (out.set i.toNat x).set i.toNat x4))
 else none
 else none
 else
 some (.inl (W64 (i + 1), a, b, t4, out.set i.toNat x))
 else none
 else none
 else none
 else none
 else
 some (.inr (t4, out))
def z4d (s : ze9) : Option (ze9 ⊕ zk6) := zeh s.1 s.2.1 s.2.2.1 s.2.2.2.1 s.2.2.2.2
theorem zsg : SoundD Try.prog (.loop (subC (bodyC Try.f17) [1, 1, 0, 1, 0, 0])) (loopD z8o.xe z9b (loopC z4d)) :=
 z0w (S := z8o.xe) (X := z9b) zx9 (h := .no) (z0o [] (by kernel_rfl) trivial) (z0c z8o) zr7 z4d (fun s => by kernel_rfl)
def zy5 : Shp := ⟨1, 0, [(0, .d c1)], []⟩
def z12i : XS := .one .ret zy5.xe
theorem z1ay : z12i.OK := XS.one_ok (z0c zy5)
def zg0 (a : List Int) (b : List Int) : Option (((List Int))) :=
 (loopC z4d (0, a, b, List.replicate 8 (0 : Int), List.replicate 8 (0 : Int))).bind fun o =>
 some o.2
def zi0 : Sig := ⟨17, [.d c1, .d c1], [], 0, z12i⟩
def zgi (x : (List Int) × (List Int)) : Option (((List Int))) := zg0 x.1 x.2
theorem zkw : FnOK Try.prog zi0 zgi :=
 fn_ok zx9 (h := (.two .no (.two .no (.two (.two .no (.over (loopD z8o.xe z9b (loopC z4d)))) .no)))) Try.func17 (z0o [.den (.loop (subC (bodyC Try.f17) [1, 1, 0, 1, 0, 0])) (loopD z8o.xe z9b (loopC z4d))] (by kernel_rfl) ⟨zsg, trivial⟩) (by kernel_rfl) z1ay (fun x => by kernel_rfl)
def z1i3 : Env := ⟨[(entQ z17q z15b), (entQ zi0 zgi)], [], []⟩
theorem z1ch : EnvsOK Try.prog z1i3 := ⟨z0p (z0q z1h7) (z0p (z0q zkw) (z0x _)), z0t _, z0u _⟩
def zxj : Shp := ⟨1, 0, [(0, .d c1)], []⟩
def z14t : XS := .one .ret zxj.xe
theorem z1a8 : z14t.OK := XS.one_ok (z0c zxj)
def zca (v : List Int) (id : T0) : Option (((List Int))) :=
 (zvj id).bind fun r =>
 (zg0 v r).bind fun r2 =>
 some r2
def zcp : Sig := ⟨33, [.d c1, .d c0], [], 0, z14t⟩
def zbq (x : (List Int) × T0) : Option (((List Int))) := zca x.1 x.2
theorem zdf : FnOK Try.prog zcp zbq :=
 fn_ok z1ch (h := .no) Try.func33 (z0o [] (by kernel_rfl) trivial) (by kernel_rfl) z1a8 (fun x => by kernel_rfl)
def z1ez : Env := ⟨[(entQ zcp zbq)], [], []⟩
theorem zuh : EnvsOK Try.prog z1ez := ⟨z0p (z0q zdf) (z0x _), z0t _, z0u _⟩
def zh8 : Shp := ⟨20, 0, [(2, .pt 0 (.one (.arr 8 .leaf)) []), (3, .pt 1 (.one (.arr 8 .leaf)) [])], [.var 25 (.d c1), .var 25 (.d c1)]⟩
def z7p : XS := .one (.exit 0) zh8.xe
theorem zq9 : z7p.OK := XS.one_ok (z0c zh8)
def z7u : Shp := ⟨20, 0, [(0, .d c3), (2, .pt 0 (.one (.arr 8 .leaf)) []), (3, .pt 1 (.one (.arr 8 .leaf)) []), (4, .d (.int .i64))], [.var 25 (.d c1), .var 25 (.d c1)]⟩
abbrev zd5 := (List T1) × Int × (List Int) × (List Int)
abbrev zjf := ((List Int) × (List Int))
def zd9 (l : List T1) (i : Int) (t2 : List Int) (v : List Int) : Option (zd5 ⊕ zjf) :=
 z1f (List.length l) (
 bif ltI i (List.length l : Nat) then
 (idxI l i).bind fun x =>
 (zca v x.1).bind fun r =>
 some (.inl (l, W64 (i + 1), t2, r))
 else
 some (.inr (t2, v)))
def z3w (s : zd5) : Option (zd5 ⊕ zjf) := zd9 s.1 s.2.1 s.2.2.1 s.2.2.2
theorem zrd : SoundD Try.prog (.loop (subC (bodyC Try.f28) [1, 1, 0, 1, 0, 0])) (loopD z7u.xe z7p (loopC z3w)) :=
 z0w (S := z7u.xe) (X := z7p) zuh (h := .no) (z0o [] (by kernel_rfl) trivial) (z0c z7u) zq9 z3w (fun s => by kernel_rfl)
def zv8 : Shp := ⟨1, 0, [(0, .d c1)], []⟩
def z11f : XS := .one .ret zv8.xe
theorem z19m : z11f.OK := XS.one_ok (z0c zv8)
def zou (l : List T1) : Option (((List Int))) :=
 (loopC z3w (l, 0, List.replicate 8 (0 : Int), List.replicate 8 (0 : Int))).bind fun o =>
 some o.2
def z10s : Sig := ⟨28, [.d c3], [], 0, z11f⟩
def zws (x : (List T1)) : Option (((List Int))) := zou x
theorem z1cb : FnOK Try.prog z10s zws :=
 fn_ok zuh (h := (.two .no (.two .no (.two (.two .no (.over (loopD z7u.xe z7p (loopC z3w)))) .no)))) Try.func28 (z0o [.den (.loop (subC (bodyC Try.f28) [1, 1, 0, 1, 0, 0])) (loopD z7u.xe z7p (loopC z3w))] (by kernel_rfl) ⟨zrd, trivial⟩) (by kernel_rfl) z19m (fun x => by kernel_rfl)
def z1jt : Env := ⟨[], [], []⟩
theorem z13s : EnvsOK Try.prog z1jt := ⟨z0x _, z0t _, z0u _⟩
def zn9 : Shp := ⟨18, 0, [], []⟩
def znd : Shp := ⟨18, 0, [(4, .d .bool)], []⟩
def zb3 : XS := .or (.exit 0) zn9.xe (.one .ret znd.xe)
theorem zx0 : zb3.OK := XS.or_ok (z0c zn9) (XS.one_ok (z0c znd))
def zba : Shp := ⟨18, 0, [(0, .d c4), (3, .pt 0 r2 []), (5, .d (.int .i64))], [.var 43 (.d c0)]⟩
abbrev zi1 := (List T0) × Int × T0
abbrev zq2 := (Unit) ⊕ (Bool)
def zdq (l : List T0) (i : Int) (x : T0) : Option (zi1 ⊕ zq2) :=
 z1f (List.length l) (
 bif ltI i (List.length l : Nat) then
 (idxI l i).bind fun x2 =>
 bif eqU c0 x2 x then
 some (.inr (.inr true))
 else
 some (.inl (l, W64 (i + 1), x))
 else
 some (.inr (.inl ())))
def z5f (s : zi1) : Option (zi1 ⊕ zq2) := zdq s.1 s.2.1 s.2.2
theorem zy8 : SoundD Try.prog (.loop (subC (bodyC Try.f53) [1, 0, 1, 0, 0])) (loopD zba.xe zb3 (loopC z5f)) :=
 z0w (S := zba.xe) (X := zb3) z13s (h := .no) (z0o [] (by kernel_rfl) trivial) (z0c zba) zx0 z5f (fun s => by kernel_rfl)
def z11z : Shp := ⟨1, 0, [(0, .d .bool)], []⟩
def z1b2 : XS := .one .ret z11z.xe
theorem z1eu : z1b2.OK := XS.one_ok (z0c z11z)
def zhu (l : List T0) (x : T0) : Option ((Bool)) :=
 (loopC z5f (l, 0, x)).bind fun o =>
 Sum.elim (fun y =>
 some false) (fun y2 =>
 some y2) o
def zyx : Sig := ⟨53, [.d c4, .d c0], [], 0, z1b2⟩
def zvv (x : (List T0) × T0) : Option ((Bool)) := zhu x.1 x.2
theorem z17h : FnOK Try.prog zyx zvv :=
 fn_ok z13s (h := (.two .no (.two (.two .no (.over (loopD zba.xe zb3 (loopC z5f)))) .no))) Try.func53 (z0o [.den (.loop (subC (bodyC Try.f53) [1, 0, 1, 0, 0])) (loopD zba.xe zb3 (loopC z5f))] (by kernel_rfl) ⟨zy8, trivial⟩) (by kernel_rfl) z1eu (fun x => by kernel_rfl)
def z1de : Env := ⟨[], [], []⟩
theorem z19p : EnvsOK Try.prog z1de := ⟨z0x _, z0t _, z0u _⟩
def zsl : Shp := ⟨1, 0, [(0, .d .bool)], []⟩
def zx5 : XS := .one .ret zsl.xe
theorem z15x : zx5.OK := XS.one_ok (z0c zsl)
def zct (a : T0) (b : T0) : Option ((Bool)) :=
 bif ltI a.2 b.2 then
 some true
 else
 bif eqI a.2 b.2 then
 some (ltI a.1 b.1)
 else
 some false
def zez : Sig := ⟨31, [.d c0, .d c0], [], 0, zx5⟩
def ze5 (x : T0 × T0) : Option ((Bool)) := zct x.1 x.2
theorem zh5 : FnOK Try.prog zez ze5 :=
 fn_ok z19p (h := .no) Try.func31 (z0o [] (by kernel_rfl) trivial) (by kernel_rfl) z15x (fun x => by kernel_rfl)
def z1ie : Env := ⟨[(entQ zi0 zgi), (entQ zez ze5)], [], []⟩
theorem zzt : EnvsOK Try.prog z1ie := ⟨z0p (z0q zkw) (z0p (z0q zh5) (z0x _)), z0t _, z0u _⟩
def zbx : Shp := ⟨67, 0, [(0, .d c5), (3, .pt 0 r7 []), (5, .wn 1 c6), (6, .d .bool), (7, .d (.int .i64))], [.var 45 (.d c6), .row 45 c6]⟩
def z9g : XS := .one .normal zbx.xe
theorem ziy : z9g.OK := XS.one_ok (z0c zbx)
def zbg : Shp := ⟨67, 0, [(0, .d c5), (3, .pt 0 r7 []), (5, .wn 1 c6), (6, .d .bool), (7, .d (.int .i64)), (48, .d .bool)], [.var 45 (.d c6), .row 45 c6]⟩
def z8c : XS := .one .normal zbg.xe
theorem zhd : z8c.OK := XS.one_ok (z0c zbg)
def zh7 : Shp := ⟨67, 0, [(3, .pt 0 r7 []), (5, .wn 1 c6), (6, .d .bool)], [.var 45 (.d c6), .row 45 c6]⟩
def z7x : XS := .one (.exit 0) zh7.xe
theorem zqf : z7x.OK := XS.one_ok (z0c zh7)
def z7s : Shp := ⟨67, 0, [(0, .d c5), (3, .pt 0 r7 []), (5, .wn 1 c6), (6, .d .bool), (7, .d (.int .i64))], [.var 45 (.d c6), .row 45 c6]⟩
abbrev zd8 := (List T2) × Bool × Int × T2 × (List T2)
abbrev zjd := (Bool × T2 × (List T2))
def zab (l : List T2) (put : Bool) (i : Int) (x : T2) (out : List T2) : Option (zd8 ⊕ zjd) :=
 z1f (List.length l) (
 bif ltI i (List.length l : Nat) then
 (idxI l i).bind fun x2 =>
 bif eqU c0 x2.1 x.1 then
 (idxI l i).bind fun x3 =>
 (zg0 x3.2.2.2.2 x.2.2.2.2).bind fun r =>
 bif Nat.beq (List.length out) (List.length out) then
 appG (List.length out) (List.length ([(x3.1, x3.2.1, x3.2.2.1, x3.2.2.2.1, r)] : List T2)) 96 fun _ =>
 bif Nat.beq (List.length (out ++ ([(x3.1, x3.2.1, x3.2.2.1, x3.2.2.2.1, r)] : List T2))) (List.length (out ++ ([(x3.1, x3.2.1, x3.2.2.1, x3.2.2.2.1, r)] : List T2))) then
 some (.inl (l, true, W64 (i + 1), x, out ++ ([(x3.1, x3.2.1, x3.2.2.1, x3.2.2.2.1, r)] : List T2)))
 else none
 else none
 else
 (show Option (((List T2) × Bool × Int × T2 × (List T2))) from
 (show Option (((List T2) × Bool × Int × Bool × T2 × (List T2))) from
 bif !put then
 (idxI l i).bind fun x4 =>
 (zct x.1 x4.1).bind fun r2 =>
 bif Nat.beq (List.length out) (List.length out) then
 some (l, put, i, r2, x, out)
 else none
 else
 bif Nat.beq (List.length out) (List.length out) then
 some (l, put, i, false, x, out)
 else none).bind fun j =>
 bif j.2.2.2.1 then
 bif Nat.beq (List.length j.2.2.2.2.2) (List.length j.2.2.2.2.2) then
 appG (List.length j.2.2.2.2.2) (List.length ([j.2.2.2.2.1] : List T2)) 96 fun _ =>
 bif Nat.beq (List.length (j.2.2.2.2.2 ++ ([j.2.2.2.2.1] : List T2))) (List.length (j.2.2.2.2.2 ++ ([j.2.2.2.2.1] : List T2))) then
 some (j.1, true, j.2.2.1, j.2.2.2.2.1, j.2.2.2.2.2 ++ ([j.2.2.2.2.1] : List T2))
 else none
 else none
 else
 bif Nat.beq (List.length j.2.2.2.2.2) (List.length j.2.2.2.2.2) then
 some (j.1, j.2.1, j.2.2.1, j.2.2.2.2.1, j.2.2.2.2.2)
 else none).bind fun j2 =>
 (idxI j2.1 j2.2.2.1).bind fun x5 =>
 bif Nat.beq (List.length j2.2.2.2.2) (List.length j2.2.2.2.2) then
 appG (List.length j2.2.2.2.2) (List.length ([x5] : List T2)) 96 fun _ =>
 bif Nat.beq (List.length (j2.2.2.2.2 ++ ([x5] : List T2))) (List.length (j2.2.2.2.2 ++ ([x5] : List T2))) then
 some (.inl (j2.1, j2.2.1, W64 (j2.2.2.1 + 1), j2.2.2.2.1, j2.2.2.2.2 ++ ([x5] : List T2)))
 else none
 else none
 else
 bif Nat.beq (List.length out) (List.length out) then
 some (.inr (put, x, out))
 else none)
def z2u (s : zd8) : Option (zd8 ⊕ zjd) := zab s.1 s.2.1 s.2.2.1 s.2.2.2.1 s.2.2.2.2
theorem zru : SoundD Try.prog (.loop (subC (bodyC Try.f54) [1, 1, 1, 0, 1, 0, 0])) (loopD z7s.xe z7x (loopC z2u)) :=
 z0w (S := z7s.xe) (X := z7x) zzt (h := (.two .no (.two (.two .no (.join (fun _ => z9g) (.join (fun _ => z8c) .no .no) .no)) .no))) (z0o [.xs (fun _ => z9g), .xs (fun _ => z8c)] (by kernel_rfl) ⟨(z5r ziy), (z5r zhd), trivial⟩) (z0c z7s) zqf z2u (fun s => by kernel_rfl)
def z10l : Shp := ⟨1, 0, [(0, .d c5)], []⟩
def z17a : XS := .one .ret z10l.xe
theorem z1d1 : z17a.OK := XS.one_ok (z0c z10l)
def zi9 (l : List T2) (x : T2) : Option (((List T2))) :=
 bif Nat.beq 0 (List.length ([] : List T2)) then
 (loopC z2u (l, false, 0, x, ([] : List T2))).bind fun o =>
 bif !o.1 then
 bif Nat.beq (List.length o.2.2) (List.length o.2.2) then
 appG (List.length o.2.2) (List.length ([o.2.1] : List T2)) 96 fun _ =>
 winK (o.2.2 ++ ([o.2.1] : List T2)) 0 (List.length (o.2.2 ++ ([o.2.1] : List T2))) fun w =>
 some w
 else none
 else
 winK o.2.2 0 (List.length o.2.2) fun w2 =>
 some w2
 else none
def z16s : Sig := ⟨54, [.d c5, .d c6], [], 0, z17a⟩
def z12f (x : (List T2) × T2) : Option (((List T2))) := zi9 x.1 x.2
theorem z1h9 : FnOK Try.prog z16s z12f :=
 fn_ok zzt (h := (.two .no (.two .no (.two .no (.two (.two .no (.over (loopD z7s.xe z7x (loopC z2u)))) .no))))) Try.func54 (z0o [.den (.loop (subC (bodyC Try.f54) [1, 1, 1, 0, 1, 0, 0])) (loopD z7s.xe z7x (loopC z2u))] (by kernel_rfl) ⟨zru, trivial⟩) (by kernel_rfl) z1d1 (fun x => by kernel_rfl)
def z1b1 : Env := ⟨[(entQ zyx zvv), (entQ zcp zbq), (entQ z16s z12f)], [], []⟩
theorem zjt : EnvsOK Try.prog z1b1 := ⟨z0p (z0q z17h) (z0p (z0q zdf) (z0p (z0q z1h9) (z0x _))), z0t _, z0u _⟩
def zbc : Shp := ⟨101, 0, [(0, .d c3), (3, .d c5), (4, .d (.int .i64)), (5, .pt 0 r8 [])], [.var 67 (.d c9)]⟩
def zaz : Shp := ⟨101, 0, [(0, .d c3), (3, .d c5), (4, .d (.int .i64)), (23, .pt 0 r8 [.fld 2]), (24, .d (.int .i64)), (25, .d .bool), (28, .pt 0 r8 [.fld 2]), (29, .d (.int .i64)), (30, .d .bool)], [.var 67 (.d c9)]⟩
def z7y : XS := .or .normal zbc.xe (.one (.exit 1) zaz.xe)
theorem zhc : z7y.OK := XS.or_ok (z0c zbc) (XS.one_ok (z0c zaz))
def z9x : Shp := ⟨101, 0, [(0, .d c3), (3, .d c5), (4, .d (.int .i64)), (6, .pt 0 r7 [])], [.var 45 (.d c6)]⟩
def z5w : XS := .one .normal z9x.xe
theorem zff : z5w.OK := XS.one_ok (z0c z9x)
def z4o : Shp := ⟨101, 0, [(0, .d c3), (3, .d c5), (4, .d (.int .i64)), (6, .pt 0 r7 []), (7, .d (.int .i64)), (8, .d .bool)], [.var 45 (.d c6)]⟩
def z2m : XS := .one .normal z4o.xe
theorem zag : z2m.OK := XS.one_ok (z0c z4o)
def z4g : Shp := ⟨101, 0, [(0, .d c3), (3, .d c5), (4, .d (.int .i64)), (6, .pt 0 r7 []), (7, .d (.int .i64)), (87, .d .bool)], [.var 45 (.d c6)]⟩
def z2k : XS := .one .normal z4g.xe
theorem za8 : z2k.OK := XS.one_ok (z0c z4g)
def z6l : Shp := ⟨101, 0, [(0, .d c3), (3, .d c5), (4, .d (.int .i64)), (6, .pt 0 r7 [])], [.var 45 (.d c6)]⟩
def z1s : XS := .one (.exit 2) z6l.xe
theorem zc6 : z1s.OK := XS.one_ok (z0c z6l)
def z1q : Shp := ⟨101, 0, [(0, .d c3), (3, .d c5), (4, .d (.int .i64)), (6, .pt 0 r7 []), (7, .d (.int .i64))], [.var 45 (.d c6)]⟩
abbrev z3p := (List T1) × (List T2) × Int × Int × T2
abbrev z7h := ((List T1) × (List T2) × Int × T2)
def z1r (l : List T1) (out : List T2) (i : Int) (k : Int) (x : T2) : Option (z3p ⊕ z7h) :=
 z1f (List.length l) (
 bif ltI k (List.length l : Nat) then
 (show Option (((List T1) × (List T2) × Int × Int × Bool × T2)) from
 (idxI l k).bind fun x2 =>
 bif eqI x2.2.2.1 6 then
 some (l, out, i, k, true, x)
 else
 (idxI l k).bind fun x3 =>
 some (l, out, i, k, eqI x3.2.2.1 7, x)).bind fun j =>
 (show Option (((List T1) × (List T2) × Int × Int × Bool × T2)) from
 bif j.2.2.2.2.1 then
 (idxI j.1 j.2.2.2.1).bind fun x4 =>
 bif eqU c0 x4.2.2.2.1 j.2.2.2.2.2.2.2.2.1 then
 (idxI j.1 j.2.2.2.1).bind fun x5 =>
 (zhu x5.2.2.2.2.2.2.1 j.2.2.2.2.2.1).bind fun r =>
 some (j.1, j.2.1, j.2.2.1, j.2.2.2.1, r, j.2.2.2.2.2)
 else
 some (j.1, j.2.1, j.2.2.1, j.2.2.2.1, false, j.2.2.2.2.2)
 else
 some (j.1, j.2.1, j.2.2.1, j.2.2.2.1, false, j.2.2.2.2.2)).bind fun j2 =>
 bif j2.2.2.2.2.1 then
 (idxI j2.1 j2.2.2.2.1).bind fun x6 =>
 (zca j2.2.2.2.2.2.2.2.2.2 x6.1).bind fun r2 =>
 some (.inl (j2.1, j2.2.1, j2.2.2.1, W64 (j2.2.2.2.1 + 1), (j2.2.2.2.2.2.1, j2.2.2.2.2.2.2.1, j2.2.2.2.2.2.2.2.1, j2.2.2.2.2.2.2.2.2.1, r2)))
 else
 some (.inl (j2.1, j2.2.1, j2.2.2.1, W64 (j2.2.2.2.1 + 1), j2.2.2.2.2.2))
 else
 some (.inr (l, out, i, x)))
def z0r (s : z3p) : Option (z3p ⊕ z7h) := z1r s.1 s.2.1 s.2.2.1 s.2.2.2.1 s.2.2.2.2
theorem zci : SoundD Try.prog (.loop (subC (bodyC Try.f29) [1, 1, 0, 1, 0, 0, 1, 0, 0, 1, 1, 1, 1, 0, 1, 0, 0])) (loopD z1q.xe z1s (loopC z0r)) :=
 z0w (S := z1q.xe) (X := z1s) zjt (h := (.two .no (.two (.join (fun _ => z2m) .no (.join (fun _ => z2k) .no .no)) .no))) (z0o [.xs (fun _ => z2m), .xs (fun _ => z2k)] (by kernel_rfl) ⟨(z5r zag), (z5r za8), trivial⟩) (z0c z1q) zc6 z0r (fun s => by kernel_rfl)
def zfo : Shp := ⟨101, 0, [(3, .d c5)], []⟩
def z6j : XS := .one (.exit 0) zfo.xe
theorem zoj : z6j.OK := XS.one_ok (z0c zfo)
def z6e : Shp := ⟨101, 0, [(0, .d c3), (3, .d c5), (4, .d (.int .i64))], []⟩
abbrev zc2 := (List T1) × (List T2) × Int
abbrev zh2 := ((List T2))
def z6i (l : List T1) (out : List T2) (i : Int) : Option (zc2 ⊕ zh2) :=
 z1f (List.length l) (
 bif ltI i (List.length l : Nat) then
 (idxI l i).bind fun x =>
 (show Option (((List T1) × (List T2) × Int × T1) ⊕ ((List T1) × (List T2) × Int × Int × Bool × Int × Bool × T1)) from
 bif neI x.2.2.1 1 then
 bif neI x.2.2.1 2 then
 bif neI x.2.2.1 7 then
 some (.inr (l, out, i, x.2.2.1, neI x.2.2.1 2, x.2.2.1, neI x.2.2.1 7, x))
 else
 some (.inl (l, out, i, x))
 else
 some (.inl (l, out, i, x))
 else
 some (.inl (l, out, i, x))).bind fun j =>
 Sum.elim (fun y =>
 (show Option (((List T1) × (List T2) × Int × T2)) from
 bif eqI y.2.2.2.2.2.1 7 then
 some (y.1, y.2.1, y.2.2.1, (y.2.2.2.1, y.2.2.2.2.2.2.2.1, y.2.2.2.2.2.2.2.2.1, y.2.2.2.2.2.2.1, List.replicate 8 (0 : Int)))
 else
 some (y.1, y.2.1, y.2.2.1, (y.2.2.2.1, y.2.2.2.2.2.2.2.1, y.2.2.2.2.2.2.2.2.1, y.2.2.2.1, List.replicate 8 (0 : Int)))).bind fun j2 =>
 (loopC z0r (j2.1, j2.2.1, j2.2.2.1, 0, j2.2.2.2)).bind fun o =>
 (zi9 o.2.1 o.2.2.2).bind fun r =>
 some (.inl (o.1, r, W64 (o.2.2.1 + 1)))) (fun y2 =>
 some (.inl (y2.1, y2.2.1, W64 (y2.2.2.1 + 1)))) j
 else
 some (.inr out))
def z2g (s : zc2) : Option (zc2 ⊕ zh2) := z6i s.1 s.2.1 s.2.2
theorem zp5 : SoundD Try.prog (.loop (subC (bodyC Try.f29) [1, 1, 0, 1, 0, 0])) (loopD z6e.xe z6j (loopC z2g)) :=
 z0w (S := z6e.xe) (X := z6j) zjt (h := (.two .no (.two (.two .no (.join (fun _ => z7y) .no (.two .no (.join (fun _ => z5w) .no (.two (.two .no (.over (loopD z1q.xe z1s (loopC z0r)))) .no))))) .no))) (z0o [.xs (fun _ => z7y), .xs (fun _ => z5w), .den (.loop (subC (bodyC Try.f29) [1, 1, 0, 1, 0, 0, 1, 0, 0, 1, 1, 1, 1, 0, 1, 0, 0])) (loopD z1q.xe z1s (loopC z0r))] (by kernel_rfl) ⟨(z5r zhc), (z5r zff), zci, trivial⟩) (z0c z6e) zoj z2g (fun s => by kernel_rfl)
def zqr : Shp := ⟨1, 0, [(0, .d c5)], []⟩
def zvb : XS := .one .ret zqr.xe
theorem z13l : zvb.OK := XS.one_ok (z0c zqr)
def zbv (l : List T1) : Option (((List T2))) :=
 (loopC z2g (l, [], 0)).bind fun o =>
 some o
def zvh : Sig := ⟨29, [.d c3], [], 0, zvb⟩
def zt3 (x : (List T1)) : Option (((List T2))) := zbv x
theorem z19f : FnOK Try.prog zvh zt3 :=
 fn_ok zjt (h := (.two .no (.two .no (.two (.two .no (.over (loopD z6e.xe z6j (loopC z2g)))) .no)))) Try.func29 (z0o [.den (.loop (subC (bodyC Try.f29) [1, 1, 0, 1, 0, 0])) (loopD z6e.xe z6j (loopC z2g))] (by kernel_rfl) ⟨zp5, trivial⟩) (by kernel_rfl) z13l (fun x => by kernel_rfl)
def z1cf : Env := ⟨[], [], []⟩
theorem z19z : EnvsOK Try.prog z1cf := ⟨z0x _, z0t _, z0u _⟩
def zsf : Shp := ⟨1, 0, [(0, .d .bool)], []⟩
def zwk : XS := .one .ret zsf.xe
theorem z16h : zwk.OK := XS.one_ok (z0c zsf)
def zic (t0 : T1) : Option ((Bool)) :=
 bif eqI t0.2.2.1 3 then
 some true
 else
 bif eqI t0.2.2.1 4 then
 some true
 else
 some (eqI t0.2.2.1 5)
def zxg : Sig := ⟨77, [.d c9], [], 0, zwk⟩
def zuc (x : T1) : Option ((Bool)) := zic x
theorem z1a6 : FnOK Try.prog zxg zuc :=
 fn_ok z19z (h := .no) Try.func77 (z0o [] (by kernel_rfl) trivial) (by kernel_rfl) z16h (fun x => by kernel_rfl)
def z1ha : Env := ⟨[], [], []⟩
theorem zxs : EnvsOK Try.prog z1ha := ⟨z0x _, z0t _, z0u _⟩
def zk9 : Shp := ⟨25, 0, [(4, .pt 0 r8 [])], [.var 67 (.d c9)]⟩
def zk7 : Shp := ⟨25, 0, [(4, .pt 0 r8 []), (5, .d .bool)], [.var 67 (.d c9)]⟩
def z9z : XS := .or (.exit 0) zk9.xe (.one .ret zk7.xe)
theorem ztz : z9z.OK := XS.or_ok (z0c zk9) (XS.one_ok (z0c zk7))
def za1 : Shp := ⟨25, 0, [(0, .d c3), (3, .pt 0 r2 []), (4, .pt 1 r8 []), (6, .d (.int .i64))], [.var 43 (.d c0), .var 67 (.d c9)]⟩
abbrev zfs := (List T1) × Int × T0 × T1
abbrev zmr := (T1) ⊕ (Bool × T1)
def zg4 (l : List T1) (i : Int) (x : T0) (t4 : T1) : Option (zfs ⊕ zmr) :=
 z1f (List.length l) (
 bif ltI i (List.length l : Nat) then
 (idxI l i).bind fun x2 =>
 bif eqU c0 x2.1 x then
 (idxI l i).bind fun x3 =>
 some (.inr (.inr (true, x3)))
 else
 some (.inl (l, W64 (i + 1), x, t4))
 else
 some (.inr (.inl t4)))
def z5g (s : zfs) : Option (zfs ⊕ zmr) := zg4 s.1 s.2.1 s.2.2.1 s.2.2.2
theorem zw3 : SoundD Try.prog (.loop (subC (bodyC Try.f91) [1, 0, 1, 0, 0])) (loopD za1.xe z9z (loopC z5g)) :=
 z0w (S := za1.xe) (X := z9z) zxs (h := .no) (z0o [] (by kernel_rfl) trivial) (z0c za1) ztz z5g (fun s => by kernel_rfl)
def zwz : Shp := ⟨1, 0, [(0, .tu [.d c9, .d .bool])], []⟩
def z12n : XS := .one .ret zwz.xe
theorem z1a7 : z12n.OK := XS.one_ok (z0c zwz)
def zrs (l : List T1) (x : T0) : Option ((T1 × Bool)) :=
 (loopC z5g (l, 0, x, ((0, 0), List.replicate 8 (0 : Int), 0, (0, 0), (0, 0), [], [], [], 0, [], 0))).bind fun o =>
 Sum.elim (fun y =>
 some (((0, 0), List.replicate 8 (0 : Int), 0, (0, 0), (0, 0), [], [], [], 0, [], 0), false)) (fun y2 =>
 some (y2.2, y2.1)) o
def z14u : Sig := ⟨91, [.d c3, .d c0], [], 0, z12n⟩
def zzy (x : (List T1) × T0) : Option ((T1 × Bool)) := zrs x.1 x.2
theorem z1f4 : FnOK Try.prog z14u zzy :=
 fn_ok zxs (h := (.two .no (.two (.two .no (.over (loopD za1.xe z9z (loopC z5g)))) .no))) Try.func91 (z0o [.den (.loop (subC (bodyC Try.f91) [1, 0, 1, 0, 0])) (loopD za1.xe z9z (loopC z5g))] (by kernel_rfl) ⟨zw3, trivial⟩) (by kernel_rfl) z1a7 (fun x => by kernel_rfl)
def z1fd : Env := ⟨[], [], []⟩
theorem zut : EnvsOK Try.prog z1fd := ⟨z0x _, z0t _, z0u _⟩
def zh4 : Shp := ⟨13, 0, [(3, .d .str)], []⟩
def z7q : XS := .one (.exit 0) zh4.xe
theorem zqk : z7q.OK := XS.one_ok (z0c zh4)
def z7r : Shp := ⟨13, 0, [(0, .d (.int .i64)), (3, .d .str), (4, .d (.int .i64))], []⟩
abbrev zd4 := Int × (List Int) × Int
abbrev zjm := ((List Int))
def zda (n : Int) (t3 : List Int) (i : Int) : Option (zd4 ⊕ zjm) :=
 bif ltI i n then
 catG t3 ([0] : List Int) fun _ =>
 some (.inl (n, t3 ++ ([0] : List Int), W64 (i + 1)))
 else
 some (.inr t3)
def z3u (s : zd4) : Option (zd4 ⊕ zjm) := zda s.1 s.2.1 s.2.2
theorem zri : SoundD Try.prog (.loop (subC (bodyC Try.f95) [1, 1, 0, 1, 0, 0])) (loopD z7r.xe z7q (loopC z3u)) :=
 z0w (S := z7r.xe) (X := z7q) zut (h := .no) (z0o [] (by kernel_rfl) trivial) (z0c z7r) zqk z3u (fun s => by kernel_rfl)
def zux : Shp := ⟨1, 0, [(0, .d .str)], []⟩
def z10b : XS := .one .ret zux.xe
theorem z19l : z10b.OK := XS.one_ok (z0c zux)
def zk8 (n : Int) : Option (((List Int))) :=
 (loopC z3u (n, ([] : List Int), 0)).bind fun o =>
 some o
def zqi : Sig := ⟨95, [.d (.int .i64)], [], 0, z10b⟩
def zoc (x : Int) : Option (((List Int))) := zk8 x
theorem zwy : FnOK Try.prog zqi zoc :=
 fn_ok zut (h := (.two .no (.two .no (.two (.two .no (.over (loopD z7r.xe z7q (loopC z3u)))) .no)))) Try.func95 (z0o [.den (.loop (subC (bodyC Try.f95) [1, 1, 0, 1, 0, 0])) (loopD z7r.xe z7q (loopC z3u))] (by kernel_rfl) ⟨zri, trivial⟩) (by kernel_rfl) z19l (fun x => by kernel_rfl)
def z1io : Env := ⟨[(entQ zqi zoc)], [], []⟩
theorem z1f6 : EnvsOK Try.prog z1io := ⟨z0p (z0q zwy) (z0x _), z0t _, z0u _⟩
def z10d : Shp := ⟨1, 0, [(0, .tu [.d .str, .d (.int .i64)])], []⟩
def z16r : XS := .one .ret z10d.xe
theorem z1cv : z16r.OK := XS.one_ok (z0c z10d)
def zu7 (data : List Int) (n : Int) : Option (((List Int) × Int)) :=
 bif ltI n 0 then
 some (([] : List Int), 4)
 else
 bif ltI 200 n then
 some (([] : List Int), 4)
 else
 z1f (List.length data) (
 (zk8 (W64 (n - (List.length data : Nat)))).bind fun r =>
 catG data r fun _ =>
 bif subOk 0 n (List.length (data ++ r)) then
 some (subL (data ++ r) 0 n, 0)
 else none)
def z16n : Sig := ⟨92, [.d .str, .d (.int .i64)], [], 0, z16r⟩
def z13w (x : (List Int) × Int) : Option (((List Int) × Int)) := zu7 x.1 x.2
theorem z1gw : FnOK Try.prog z16n z13w :=
 fn_ok z1f6 (h := .no) Try.func92 (z0o [] (by kernel_rfl) trivial) (by kernel_rfl) z1cv (fun x => by kernel_rfl)
def z1ew : Env := ⟨[(entQ zqi zoc)], [], []⟩
theorem z1c6 : EnvsOK Try.prog z1ew := ⟨z0p (z0q zwy) (z0x _), z0t _, z0u _⟩
def zue : Shp := ⟨1, 0, [(0, .tu [.d .str, .d (.int .i64)])], []⟩
def zzw : XS := .one .ret zue.xe
theorem z19j : zzw.OK := XS.one_ok (z0c zue)
def zoz (data : List Int) (off : Int) (t2 : List Int) : Option (((List Int) × Int)) :=
 bif ltI off 0 then
 some (([] : List Int), 4)
 else
 bif ltI 200 off then
 some (([] : List Int), 4)
 else
 z1f (List.length data) (
 bif ltI 200 (List.length data : Nat) then
 some (([] : List Int), 4)
 else
 z1f (List.length t2) (
 bif ltI 200 (W64 (off + (List.length t2 : Nat))) then
 some (([] : List Int), 4)
 else
 z1f (List.length t2) (
 z1f (List.length data) (
 (zk8 (W64 ((W64 (off + (List.length t2 : Nat))) - (List.length data : Nat)))).bind fun r =>
 catG data r fun _ =>
 bif subOk 0 off (List.length (data ++ r)) then
 catG (subL (data ++ r) 0 off) t2 fun _ =>
 z1f (List.length t2) (
 bif subOk (W64 (off + (List.length t2 : Nat))) (List.length (data ++ r) : Nat) (List.length (data ++ r)) then
 catG ((subL (data ++ r) 0 off) ++ t2) (subL (data ++ r) (W64 (off + (List.length t2 : Nat))) (List.length (data ++ r) : Nat)) fun _ =>
 some ((((subL (data ++ r) 0 off) ++ t2) ++ (subL (data ++ r) (W64 (off + (List.length t2 : Nat))) (List.length (data ++ r) : Nat)), 0))
 else none)
 else none))))
def z10q : Sig := ⟨93, [.d .str, .d (.int .i64), .d .str], [], 0, zzw⟩
def zxi (x : (List Int) × Int × (List Int)) : Option (((List Int) × Int)) := zoz x.1 x.2.1 x.2.2
theorem z1df : FnOK Try.prog z10q zxi :=
 fn_ok z1c6 (h := .no) Try.func93 (z0o [] (by kernel_rfl) trivial) (by kernel_rfl) z19j (fun x => by kernel_rfl)
def zv6 : Shp := ⟨1, 0, [(0, .d .str)], []⟩
def z11c : XS := .one .ret zv6.xe
theorem zt9 : z11c.OK := XS.one_ok (z0c zv6)
def zkq : Sig := ⟨78, [.d c3, .d c0], [], 0, z11c⟩
def z1f5 (self : (List T1) × T0 → Option (((List Int)))) : Env := ⟨[(entQ z14u zzy), (entQ zkq self), (entQ z16n z13w), (entQ z10q zxi)], [], []⟩
theorem z1bp {self : (List T1) × T0 → Option (((List Int)))} (hself : FnOK Try.prog zkq self) : EnvsOK Try.prog (z1f5 self) := ⟨z0p (z0q z1f4) (z0p (z0q hself) (z0p (z0q z1gw) (z0p (z0q z1df) (z0x _)))), z0t _, z0u _⟩
def zi2 : Shp := ⟨56, 0, [(5, .pt 0 r8 []), (7, .d .str)], [.var 67 (.d c9)]⟩
def zec : XS := .one .normal zi2.xe
theorem zrq : zec.OK := XS.one_ok (z0c zi2)
def zkr (self : (List T1) × T0 → Option (((List Int)))) (l : List T1) (x : T0) : Option (((List Int))) :=
 (zrs l x).bind fun r =>
 bif !r.2 then
 some ([] : List Int)
 else
 bif eqI r.1.2.2.1 5 then
 some r.1.2.2.2.2.2.2.2.2.2.1
 else
 (show Option (((List Int) × T1)) from
 z1f (List.length r.1.2.2.2.2.2.2.2.1) (
 bif ltI 0 (List.length r.1.2.2.2.2.2.2.2.1 : Nat) then
 (idxI r.1.2.2.2.2.2.2.2.1 0).bind fun x2 =>
 (self (l, x2)).bind fun r2 =>
 some (r2, r.1)
 else
 some (([] : List Int), r.1))).bind fun j =>
 bif eqI j.2.2.2.1 4 then
 (zu7 j.1 j.2.2.2.2.2.2.2.2.2.1).bind fun r3 =>
 some r3.1
 else
 (zoz j.1 j.2.2.2.2.2.2.2.2.2.1 j.2.2.2.2.2.2.2.2.2.2.1).bind fun r4 =>
 some r4.1
def zgf (self : (List T1) × T0 → Option (((List Int)))) (x : (List T1) × T0) : Option (((List Int))) := zkr self x.1 x.2
def zo6 : ((List T1) × T0) → Option (((List Int))) := recC zgf
def z17g (l : List T1) (x : T0) : Option (((List Int))) := zo6 (l, x)
theorem z1cn : FnOK Try.prog zkq zo6 :=
 z1qw (by kernel_rfl) zt9 (fun self hself => fn_ok (z1bp hself) (h := (.two .no (.two .no (.two .no (.two .no (.two .no (.join (fun _ => zec) .no .no))))))) Try.func78 (z0o [.xs (fun _ => zec)] (by kernel_rfl) ⟨(z5r zrq), trivial⟩) (by kernel_rfl) zt9 (fun x => by kernel_rfl))
def z1hk : Env := ⟨[], [], []⟩
theorem zy6 : EnvsOK Try.prog z1hk := ⟨z0x _, z0t _, z0u _⟩
def zu6 : Shp := ⟨33, 0, [(0, .d c10), (3, .pt 0 r2 [])], [.var 43 (.d c0)]⟩
def zv0 : Shp := ⟨33, 0, [(4, .d .str), (5, .d (.int .i64))], []⟩
def zq8 : XS := .or .normal zu6.xe (.one .ret zv0.xe)
theorem z19s : zq8.OK := XS.or_ok (z0c zu6) (XS.one_ok (z0c zv0))
def zhk : Shp := ⟨33, 0, [], []⟩
def zhs : Shp := ⟨33, 0, [(4, .d .str), (5, .d (.int .i64))], []⟩
def z8q : XS := .or (.exit 0) zhk.xe (.one .ret zhs.xe)
theorem zro : z8q.OK := XS.or_ok (z0c zhk) (XS.one_ok (z0c zhs))
def z8p : Shp := ⟨33, 0, [(0, .d c10), (3, .pt 0 r2 []), (6, .d (.int .i64))], [.var 43 (.d c0)]⟩
abbrev zej := (List T3) × Int × T0
abbrev zkk := (Unit) ⊕ ((List Int) × Int)
def zvy (l : List T3) (i : Int) (id : T0) : Option (zej ⊕ zkk) :=
 z1f (List.length l) (
 bif ltI i (List.length l : Nat) then
 (idxI l i).bind fun x =>
 bif eqU c0 x.1 id then
 (idxI l i).bind fun x2 =>
 some (.inr (.inr (x2.2.1, 0)))
 else
 some (.inl (l, W64 (i + 1), id))
 else
 some (.inr (.inl ())))
def z8y (s : zej) : Option (zej ⊕ zkk) := zvy s.1 s.2.1 s.2.2
theorem zsz : SoundD Try.prog (.loop (subC (bodyC Try.f60) [1, 1, 0, 1, 0, 0])) (loopD z8p.xe z8q (loopC z8y)) :=
 z0w (S := z8p.xe) (X := z8q) zy6 (h := .no) (z0o [] (by kernel_rfl) trivial) (z0c z8p) zro z8y (fun s => by kernel_rfl)
def zx1 : Shp := ⟨1, 0, [(0, .tu [.d .str, .d (.int .i64)])], []⟩
def z11s : XS := .one .ret zx1.xe
theorem z1c0 : z11s.OK := XS.one_ok (z0c zx1)
def z1b3 (l : List T3) (id : T0) : Option (((List Int) × Int)) :=
 (show Option (((List T3) × T0) ⊕ ((List Int) × Int)) from
 bif eqI id.1 0 then
 bif eqI id.2 0 then
 some (.inr (([] : List Int), 0))
 else
 some (.inl (l, id))
 else
 some (.inl (l, id))).bind fun j =>
 Sum.elim (fun y =>
 (loopC z8y (y.1, 0, y.2)).bind fun o =>
 Sum.elim (fun y3 =>
 some (([] : List Int), 2)) (fun y4 =>
 some (y4.1, y4.2)) o) (fun y2 =>
 some (y2.1, y2.2)) j
def z12l : Sig := ⟨60, [.d c10, .d c0], [], 0, z11s⟩
def z10g (x : (List T3) × T0) : Option (((List Int) × Int)) := z1b3 x.1 x.2
theorem z1f0 : FnOK Try.prog z12l z10g :=
 fn_ok zy6 (h := (.two .no (.join (fun _ => zq8) .no (.two (.two .no (.over (loopD z8p.xe z8q (loopC z8y)))) .no)))) Try.func60 (z0o [.xs (fun _ => zq8), .den (.loop (subC (bodyC Try.f60) [1, 1, 0, 1, 0, 0])) (loopD z8p.xe z8q (loopC z8y))] (by kernel_rfl) ⟨(z5r z19s), zsz, trivial⟩) (by kernel_rfl) z1c0 (fun x => by kernel_rfl)
def z1ib : Env := ⟨[], [], []⟩
theorem z10o : EnvsOK Try.prog z1ib := ⟨z0x _, z0t _, z0u _⟩
def zlr : Shp := ⟨19, 0, [], []⟩
def zlc : Shp := ⟨19, 0, [(4, .d .bool)], []⟩
def zah : XS := .or (.exit 0) zlr.xe (.one .ret zlc.xe)
theorem zw0 : zah.OK := XS.or_ok (z0c zlr) (XS.one_ok (z0c zlc))
def zaf : Shp := ⟨19, 0, [(0, .d c10), (3, .pt 0 r2 []), (5, .d (.int .i64))], [.var 43 (.d c0)]⟩
abbrev zgt := (List T3) × Int × T0
abbrev znt := (Unit) ⊕ (Bool)
def zgu (l : List T3) (i : Int) (id : T0) : Option (zgt ⊕ znt) :=
 z1f (List.length l) (
 bif ltI i (List.length l : Nat) then
 (idxI l i).bind fun x =>
 bif eqU c0 x.1 id then
 some (.inr (.inr true))
 else
 some (.inl (l, W64 (i + 1), id))
 else
 some (.inr (.inl ())))
def z6b (s : zgt) : Option (zgt ⊕ znt) := zgu s.1 s.2.1 s.2.2
theorem zx2 : SoundD Try.prog (.loop (subC (bodyC Try.f94) [1, 0, 1, 0, 0])) (loopD zaf.xe zah (loopC z6b)) :=
 z0w (S := zaf.xe) (X := zah) z10o (h := .no) (z0o [] (by kernel_rfl) trivial) (z0c zaf) zw0 z6b (fun s => by kernel_rfl)
def z10r : Shp := ⟨1, 0, [(0, .d .bool)], []⟩
def z17e : XS := .one .ret z10r.xe
theorem z1cw : z17e.OK := XS.one_ok (z0c z10r)
def zpd (l : List T3) (id : T0) : Option ((Bool)) :=
 (loopC z6b (l, 0, id)).bind fun o =>
 Sum.elim (fun y =>
 some false) (fun y2 =>
 some y2) o
def z17b : Sig := ⟨94, [.d c10, .d c0], [], 0, z17e⟩
def z14r (x : (List T3) × T0) : Option ((Bool)) := zpd x.1 x.2
theorem z1fz : FnOK Try.prog z17b z14r :=
 fn_ok z10o (h := (.two .no (.two (.two .no (.over (loopD zaf.xe zah (loopC z6b)))) .no))) Try.func94 (z0o [.den (.loop (subC (bodyC Try.f94) [1, 0, 1, 0, 0])) (loopD zaf.xe zah (loopC z6b))] (by kernel_rfl) ⟨zx2, trivial⟩) (by kernel_rfl) z1cw (fun x => by kernel_rfl)
def z1iy : Env := ⟨[(entQ z12l z10g), (entQ z17b z14r), (entQ zez ze5), (entQ zcp zbq)], [], []⟩
theorem zku : EnvsOK Try.prog z1iy := ⟨z0p (z0q z1f0) (z0p (z0q z1fz) (z0p (z0q zh5) (z0p (z0q zdf) (z0x _)))), z0t _, z0u _⟩
def zlu : Shp := ⟨118, 0, [(0, .d c10), (1, .d c4), (5, .pt 0 r12 [])], [.var 85 (.d c11)]⟩
def zlm : Shp := ⟨118, 0, [(6, .d c10), (7, .d (.int .i64))], []⟩
def zal : XS := .or (.exit 0) zlu.xe (.one .ret zlm.xe)
theorem zw4 : zal.OK := XS.or_ok (z0c zlu) (XS.one_ok (z0c zlm))
def zac : Shp := ⟨118, 0, [(0, .d c10), (1, .d c4), (5, .pt 0 r12 []), (8, .d (.int .i64))], [.var 85 (.d c11)]⟩
abbrev zgw := (List T3) × (List T0) × Int × T3
abbrev znq := ((List T3) × (List T0) × T3) ⊕ ((List T3) × Int)
def zo1 (l : List T3) (base : List T0) (i : Int) (v : T3) : Option (zgw ⊕ znq) :=
 z1f (List.length base) (
 bif ltI i (List.length base : Nat) then
 (idxI base i).bind fun x =>
 (z1b3 l x).bind fun r =>
 bif neI r.2 0 then
 some (.inr (.inr ([], 2)))
 else
 (idxI base i).bind fun x2 =>
 bif eqI x2.1 0 then
 (idxI base i).bind fun x3 =>
 bif eqI x3.2 0 then
 (idxI base i).bind fun x4 =>
 (zpd l x4).bind fun r2 =>
 bif !r2 then
 some (.inr (.inr ([], 2)))
 else
 some (.inl (l, base, W64 (i + 1), v))
 else
 some (.inl (l, base, W64 (i + 1), v))
 else
 some (.inl (l, base, W64 (i + 1), v))
 else
 some (.inr (.inl (l, base, v))))
def z6a (s : zgw) : Option (zgw ⊕ znq) := zo1 s.1 s.2.1 s.2.2.1 s.2.2.2
theorem zwg : SoundD Try.prog (.loop (subC (bodyC Try.f79) [1, 0, 1, 0, 0])) (loopD zac.xe zal (loopC z6a)) :=
 z0w (S := zac.xe) (X := zal) zku (h := .no) (z0o [] (by kernel_rfl) trivial) (z0c zac) zw4 z6a (fun s => by kernel_rfl)
def zb5 : Shp := ⟨118, 0, [(0, .d c10), (1, .d c4), (5, .pt 0 r12 []), (11, .wn 1 c11), (12, .d .bool), (13, .d (.int .i64))], [.var 85 (.d c11), .row 85 c11]⟩
def z8a : XS := .one .normal zb5.xe
theorem zhb : z8a.OK := XS.one_ok (z0c zb5)
def zam : Shp := ⟨118, 0, [(0, .d c10), (1, .d c4), (5, .pt 0 r12 []), (11, .wn 1 c11), (12, .d .bool), (13, .d (.int .i64)), (79, .d .bool)], [.var 85 (.d c11), .row 85 c11]⟩
def z7e : XS := .one .normal zam.xe
theorem zgo : z7e.OK := XS.one_ok (z0c zam)
def z7i : Shp := ⟨118, 0, [(0, .d c10), (1, .d c4), (5, .pt 0 r12 []), (11, .wn 1 c11), (12, .d .bool), (13, .d (.int .i64)), (14, .pt 2 r12 [])], [.var 85 (.d c11), .row 85 c11, .var 85 (.d c11)]⟩
def z1u : XS := .one (.exit 4) z7i.xe
theorem zcu : z1u.OK := XS.one_ok (z0c z7i)
def z1t : Shp := ⟨118, 0, [(0, .d c10), (1, .d c4), (5, .pt 0 r12 []), (11, .wn 1 c11), (12, .d .bool), (13, .d (.int .i64)), (14, .pt 2 r12 []), (15, .d (.int .i64))], [.var 85 (.d c11), .row 85 c11, .var 85 (.d c11)]⟩
abbrev z3z := (List T3) × (List T0) × Bool × Int × Int × T3 × (List T3) × T3
abbrev z8f := ((List T3) × (List T0) × Bool × Int × T3 × (List T3) × T3)
def z8e (l : List T3) (base : List T0) (put : Bool) (i : Int) (k : Int) (v : T3) (out : List T3) (x : T3) : Option (z3z ⊕ z8f) :=
 z1f (List.length base) (
 bif ltI k (List.length base : Nat) then
 (idxI base k).bind fun x2 =>
 bif eqU c0 x2 x.1 then
 (zca x.2.2 v.1).bind fun r =>
 bif Nat.beq (List.length out) (List.length out) then
 some (.inl (l, base, put, i, W64 (k + 1), v, out, (x.1, x.2.1, r)))
 else none
 else
 bif Nat.beq (List.length out) (List.length out) then
 some (.inl (l, base, put, i, W64 (k + 1), v, out, x))
 else none
 else
 bif Nat.beq (List.length out) (List.length out) then
 some (.inr (l, base, put, i, v, out, x))
 else none)
def z1d (s : z3z) : Option (z3z ⊕ z8f) := z8e s.1 s.2.1 s.2.2.1 s.2.2.2.1 s.2.2.2.2.1 s.2.2.2.2.2.1 s.2.2.2.2.2.2.1 s.2.2.2.2.2.2.2
theorem zd0 : SoundD Try.prog (.loop (subC (bodyC Try.f79) [1, 1, 1, 1, 1, 0, 1, 0, 0, 1, 0, 0, 1, 1, 0, 1, 0, 0])) (loopD z1t.xe z1u (loopC z1d)) :=
 z0w (S := z1t.xe) (X := z1u) zku (h := .no) (z0o [] (by kernel_rfl) trivial) (z0c z1t) zcu z1d (fun s => by kernel_rfl)
def zel : Shp := ⟨118, 0, [(5, .pt 0 r12 []), (11, .wn 1 c11), (12, .d .bool)], [.var 85 (.d c11), .row 85 c11]⟩
def z5c : XS := .one (.exit 2) zel.xe
theorem znc : z5c.OK := XS.one_ok (z0c zel)
def z5b : Shp := ⟨118, 0, [(0, .d c10), (1, .d c4), (5, .pt 0 r12 []), (11, .wn 1 c11), (12, .d .bool), (13, .d (.int .i64))], [.var 85 (.d c11), .row 85 c11]⟩
abbrev zb7 := (List T3) × (List T0) × Bool × Int × T3 × (List T3)
abbrev zfg := (Bool × T3 × (List T3))
def zbe (l : List T3) (base : List T0) (put : Bool) (i : Int) (v : T3) (out : List T3) : Option (zb7 ⊕ zfg) :=
 z1f (List.length l) (
 bif ltI i (List.length l : Nat) then
 (show Option (((List T3) × (List T0) × Bool × Int × T3 × (List T3))) from
 (show Option (((List T3) × (List T0) × Bool × Int × Bool × T3 × (List T3))) from
 bif !put then
 (idxI l i).bind fun x =>
 (zct v.1 x.1).bind fun r =>
 bif Nat.beq (List.length out) (List.length out) then
 some (l, base, put, i, r, v, out)
 else none
 else
 bif Nat.beq (List.length out) (List.length out) then
 some (l, base, put, i, false, v, out)
 else none).bind fun j =>
 bif j.2.2.2.2.1 then
 bif Nat.beq (List.length j.2.2.2.2.2.2) (List.length j.2.2.2.2.2.2) then
 appG (List.length j.2.2.2.2.2.2) (List.length ([j.2.2.2.2.2.1] : List T3)) 64 fun _ =>
 bif Nat.beq (List.length (j.2.2.2.2.2.2 ++ ([j.2.2.2.2.2.1] : List T3))) (List.length (j.2.2.2.2.2.2 ++ ([j.2.2.2.2.2.1] : List T3))) then
 some (j.1, j.2.1, true, j.2.2.2.1, j.2.2.2.2.2.1, j.2.2.2.2.2.2 ++ ([j.2.2.2.2.2.1] : List T3))
 else none
 else none
 else
 bif Nat.beq (List.length j.2.2.2.2.2.2) (List.length j.2.2.2.2.2.2) then
 some (j.1, j.2.1, j.2.2.1, j.2.2.2.1, j.2.2.2.2.2.1, j.2.2.2.2.2.2)
 else none).bind fun j2 =>
 (idxI j2.1 j2.2.2.2.1).bind fun x2 =>
 bif Nat.beq (List.length j2.2.2.2.2.2) (List.length j2.2.2.2.2.2) then
 (loopC z1d (j2.1, j2.2.1, j2.2.2.1, j2.2.2.2.1, 0, j2.2.2.2.2.1, j2.2.2.2.2.2, x2)).bind fun o =>
 bif Nat.beq (List.length o.2.2.2.2.2.1) (List.length o.2.2.2.2.2.1) then
 appG (List.length o.2.2.2.2.2.1) (List.length ([o.2.2.2.2.2.2] : List T3)) 64 fun _ =>
 bif Nat.beq (List.length (o.2.2.2.2.2.1 ++ ([o.2.2.2.2.2.2] : List T3))) (List.length (o.2.2.2.2.2.1 ++ ([o.2.2.2.2.2.2] : List T3))) then
 some (.inl (o.1, o.2.1, o.2.2.1, W64 (o.2.2.2.1 + 1), o.2.2.2.2.1, o.2.2.2.2.2.1 ++ ([o.2.2.2.2.2.2] : List T3)))
 else none
 else none
 else none
 else
 bif Nat.beq (List.length out) (List.length out) then
 some (.inr (put, v, out))
 else none)
def z2r (s : zb7) : Option (zb7 ⊕ zfg) := zbe s.1 s.2.1 s.2.2.1 s.2.2.2.1 s.2.2.2.2.1 s.2.2.2.2.2
theorem znn : SoundD Try.prog (.loop (subC (bodyC Try.f79) [1, 1, 1, 1, 1, 0, 1, 0, 0])) (loopD z5b.xe z5c (loopC z2r)) :=
 z0w (S := z5b.xe) (X := z5c) zku (h := (.two .no (.two (.join (fun _ => z8a) (.join (fun _ => z7e) .no .no) (.two .no (.two (.two .no (.over (loopD z1t.xe z1u (loopC z1d)))) .no))) .no))) (z0o [.xs (fun _ => z8a), .xs (fun _ => z7e), .den (.loop (subC (bodyC Try.f79) [1, 1, 1, 1, 1, 0, 1, 0, 0, 1, 0, 0, 1, 1, 0, 1, 0, 0])) (loopD z1t.xe z1u (loopC z1d))] (by kernel_rfl) ⟨(z5r zhb), (z5r zgo), zd0, trivial⟩) (z0c z5b) znc z2r (fun s => by kernel_rfl)
def zzs : Shp := ⟨1, 0, [(0, .tu [.d c10, .d (.int .i64)])], []⟩
def z17r : XS := .one .ret zzs.xe
theorem z1cy : z17r.OK := XS.one_ok (z0c zzs)
def zuw (l : List T3) (base : List T0) (v : T3) : Option (((List T3) × Int)) :=
 (loopC z6a (l, base, 0, v)).bind fun o =>
 Sum.elim (fun y =>
 (zpd y.1 y.2.2.1).bind fun r =>
 bif r then
 some ([], 11)
 else
 bif Nat.beq 0 (List.length ([] : List T3)) then
 (loopC z2r (y.1, y.2.1, false, 0, y.2.2, ([] : List T3))).bind fun o2 =>
 bif !o2.1 then
 bif Nat.beq (List.length o2.2.2) (List.length o2.2.2) then
 appG (List.length o2.2.2) (List.length ([o2.2.1] : List T3)) 64 fun _ =>
 winK (o2.2.2 ++ ([o2.2.1] : List T3)) 0 (List.length (o2.2.2 ++ ([o2.2.1] : List T3))) fun w =>
 some (w, 0)
 else none
 else
 winK o2.2.2 0 (List.length o2.2.2) fun w2 =>
 some (w2, 0)
 else none) (fun y2 =>
 some (y2.1, y2.2)) o
def z17o : Sig := ⟨79, [.d c10, .d c4, .d c11], [], 0, z17r⟩
def z14v (x : (List T3) × (List T0) × T3) : Option (((List T3) × Int)) := zuw x.1 x.2.1 x.2.2
theorem z1ho : FnOK Try.prog z17o z14v :=
 fn_ok zku (h := (.two .no (.two (.two .no (.over (loopD zac.xe zal (loopC z6a)))) (.two .no (.two .no (.two .no (.two (.two .no (.over (loopD z5b.xe z5c (loopC z2r)))) .no))))))) Try.func79 (z0o [.den (.loop (subC (bodyC Try.f79) [1, 0, 1, 0, 0])) (loopD zac.xe zal (loopC z6a)), .den (.loop (subC (bodyC Try.f79) [1, 1, 1, 1, 1, 0, 1, 0, 0])) (loopD z5b.xe z5c (loopC z2r))] (by kernel_rfl) ⟨zwg, znn, trivial⟩) (by kernel_rfl) z1cy (fun x => by kernel_rfl)
def z18p : Env := ⟨[(entQ zxg zuc), (entQ zkq zo6), (entQ zyx zvv), (entQ zcp zbq), (entQ z17o z14v)], [], []⟩
theorem zii : EnvsOK Try.prog z18p := ⟨z0p (z0q z1a6) (z0p (z0q z1cn) (z0p (z0q z17h) (z0p (z0q zdf) (z0p (z0q z1ho) (z0x _))))), z0t _, z0u _⟩
def z5k : Shp := ⟨89, 0, [(0, .d c3), (3, .pt 0 r2 []), (5, .d c10), (6, .d (.int .i64)), (7, .pt 1 r12 []), (8, .d (.int .i64)), (22, .d c3), (23, .d (.int .i64)), (24, .rf (.d c9)), (25, .rf (.d c0)), (26, .d c0), (27, .d c0), (28, .d .bool), (72, .d .bool)], [.var 43 (.d c0), .var 85 (.d c11)]⟩
def z2v : XS := .one .normal z5k.xe
theorem zbd : z2v.OK := XS.one_ok (z0c z5k)
def z7w : Shp := ⟨89, 0, [(0, .d c3), (3, .pt 0 r2 []), (5, .d c10), (6, .d (.int .i64)), (7, .pt 1 r12 []), (22, .d c3), (23, .d (.int .i64)), (24, .rf (.d c9)), (25, .rf (.d c0)), (26, .d c0), (27, .d c0), (28, .d .bool)], [.var 43 (.d c0), .var 85 (.d c11)]⟩
def z1x : XS := .one (.exit 2) z7w.xe
theorem zd1 : z1x.OK := XS.one_ok (z0c z7w)
def z1w : Shp := ⟨89, 0, [(0, .d c3), (3, .pt 0 r2 []), (5, .d c10), (6, .d (.int .i64)), (7, .pt 1 r12 []), (8, .d (.int .i64)), (22, .d c3), (23, .d (.int .i64)), (24, .rf (.d c9)), (25, .rf (.d c0)), (26, .d c0), (27, .d c0), (28, .d .bool)], [.var 43 (.d c0), .var 85 (.d c11)]⟩
abbrev z4b := (List T1) × (List T3) × Int × Int × (List T1) × Int × T1 × T0 × T0 × T0 × Bool × T0 × T3
abbrev z8z := ((List T1) × (List T3) × Int × (List T1) × Int × T1 × T0 × T0 × T0 × Bool × T0 × T3)
def z4e (l : List T1) (out : List T3) (i : Int) (k : Int) (t22 : List T1) (t23 : Int) (t24 : T1) (t25 : T0) (t26 : T0) (t27 : T0) (t28 : Bool) (obj : T0) (v : T3) : Option (z4b ⊕ z8z) :=
 z1f (List.length l) (
 bif ltI k (List.length l : Nat) then
 (show Option (((List T1) × (List T3) × Int × Int × (List T1) × Int × T1 × T0 × T0 × T0 × Bool × Bool × T0 × T3)) from
 (idxI l k).bind fun x =>
 (zic x).bind fun r =>
 bif r then
 (idxI l k).bind fun x2 =>
 bif eqU c0 x2.2.2.2.1 obj then
 (idxI l k).bind fun x3 =>
 (zhu x3.2.2.2.2.2.2.2.1 v.1).bind fun r2 =>
 some (l, out, i, k, t22, t23, t24, t25, t26, t27, t28, r2, obj, v)
 else
 some (l, out, i, k, t22, t23, t24, t25, t26, t27, t28, false, obj, v)
 else
 some (l, out, i, k, t22, t23, t24, t25, t26, t27, t28, false, obj, v)).bind fun j =>
 bif j.2.2.2.2.2.2.2.2.2.2.2.1 then
 (idxI j.1 j.2.2.2.1).bind fun x4 =>
 (zca j.2.2.2.2.2.2.2.2.2.2.2.2.2.2.2 x4.1).bind fun r3 =>
 some (.inl (j.1, j.2.1, j.2.2.1, W64 (j.2.2.2.1 + 1), j.2.2.2.2.1, j.2.2.2.2.2.1, j.2.2.2.2.2.2.1, j.2.2.2.2.2.2.2.1, j.2.2.2.2.2.2.2.2.1, j.2.2.2.2.2.2.2.2.2.1, j.2.2.2.2.2.2.2.2.2.2.1, j.2.2.2.2.2.2.2.2.2.2.2.2.1, (j.2.2.2.2.2.2.2.2.2.2.2.2.2.1, j.2.2.2.2.2.2.2.2.2.2.2.2.2.2.1, r3)))
 else
 some (.inl (j.1, j.2.1, j.2.2.1, W64 (j.2.2.2.1 + 1), j.2.2.2.2.1, j.2.2.2.2.2.1, j.2.2.2.2.2.2.1, j.2.2.2.2.2.2.2.1, j.2.2.2.2.2.2.2.2.1, j.2.2.2.2.2.2.2.2.2.1, j.2.2.2.2.2.2.2.2.2.2.1, j.2.2.2.2.2.2.2.2.2.2.2.2.1, j.2.2.2.2.2.2.2.2.2.2.2.2.2))
 else
 some (.inr (l, out, i, t22, t23, t24, t25, t26, t27, t28, obj, v)))
def z1a (s : z4b) : Option (z4b ⊕ z8z) := z4e s.1 s.2.1 s.2.2.1 s.2.2.2.1 s.2.2.2.2.1 s.2.2.2.2.2.1 s.2.2.2.2.2.2.1 s.2.2.2.2.2.2.2.1 s.2.2.2.2.2.2.2.2.1 s.2.2.2.2.2.2.2.2.2.1 s.2.2.2.2.2.2.2.2.2.2.1 s.2.2.2.2.2.2.2.2.2.2.2.1 s.2.2.2.2.2.2.2.2.2.2.2.2
theorem zd7 : SoundD Try.prog (.loop (subC (bodyC Try.f55) [1, 1, 0, 1, 0, 0, 1, 0, 0, 1, 1, 0, 1, 0, 0])) (loopD z1w.xe z1x (loopC z1a)) :=
 z0w (S := z1w.xe) (X := z1x) zii (h := (.two .no (.two (.join (fun _ => z2v) .no .no) .no))) (z0o [.xs (fun _ => z2v)] (by kernel_rfl) ⟨(z5r zbd), trivial⟩) (z0c z1w) zd1 z1a (fun s => by kernel_rfl)
def zf9 : Shp := ⟨89, 0, [(5, .d c10)], []⟩
def z5o : XS := .one (.exit 0) zf9.xe
theorem znp : z5o.OK := XS.one_ok (z0c zf9)
def z5m : Shp := ⟨89, 0, [(0, .d c3), (3, .pt 0 r2 []), (5, .d c10), (6, .d (.int .i64))], [.var 43 (.d c0)]⟩
abbrev zbp := (List T1) × (List T3) × Int × T0
abbrev zg5 := ((List T3))
def zbw (l : List T1) (out : List T3) (i : Int) (obj : T0) : Option (zbp ⊕ zg5) :=
 z1f (List.length l) (
 bif ltI i (List.length l : Nat) then
 (idxI l i).bind fun x =>
 (zic x).bind fun r =>
 bif !r then
 some (.inl (l, out, W64 (i + 1), obj))
 else
 (idxI l i).bind fun x2 =>
 bif !(eqU c0 x2.2.2.2.1 obj) then
 some (.inl (l, out, W64 (i + 1), obj))
 else
 (idxI l i).bind fun x3 =>
 (idxI l i).bind fun x4 =>
 (z17g l x4.1).bind fun r2 =>
 (loopC z1a (l, out, i, 0, l, i, x2, x2.2.2.2.1, x2.2.2.2.1, obj, !(eqU c0 x2.2.2.2.1 obj), obj, (x3.1, r2, List.replicate 8 (0 : Int)))).bind fun o =>
 (zuw o.2.1 [] o.2.2.2.2.2.2.2.2.2.2.2).bind fun r3 =>
 some (.inl (o.1, r3.1, W64 (o.2.2.1 + 1), o.2.2.2.2.2.2.2.2.2.2.1))
 else
 some (.inr out))
def z2t (s : zbp) : Option (zbp ⊕ zg5) := zbw s.1 s.2.1 s.2.2.1 s.2.2.2
theorem zo2 : SoundD Try.prog (.loop (subC (bodyC Try.f55) [1, 1, 0, 1, 0, 0])) (loopD z5m.xe z5o (loopC z2t)) :=
 z0w (S := z5m.xe) (X := z5o) zii (h := (.two .no (.two (.two .no (.two .no (.two (.two .no (.over (loopD z1w.xe z1x (loopC z1a)))) .no))) .no))) (z0o [.den (.loop (subC (bodyC Try.f55) [1, 1, 0, 1, 0, 0, 1, 0, 0, 1, 1, 0, 1, 0, 0])) (loopD z1w.xe z1x (loopC z1a))] (by kernel_rfl) ⟨zd7, trivial⟩) (z0c z5m) znp z2t (fun s => by kernel_rfl)
def zpb : Shp := ⟨1, 0, [(0, .d c10)], []⟩
def ztn : XS := .one .ret zpb.xe
theorem z11n : ztn.OK := XS.one_ok (z0c zpb)
def zim (l : List T1) (obj : T0) : Option (((List T3))) :=
 (loopC z2t (l, [], 0, obj)).bind fun o =>
 some o
def ztr : Sig := ⟨55, [.d c3, .d c0], [], 0, ztn⟩
def zqp (x : (List T1) × T0) : Option (((List T3))) := zim x.1 x.2
theorem z16c : FnOK Try.prog ztr zqp :=
 fn_ok zii (h := (.two .no (.two .no (.two (.two .no (.over (loopD z5m.xe z5o (loopC z2t)))) .no)))) Try.func55 (z0o [.den (.loop (subC (bodyC Try.f55) [1, 1, 0, 1, 0, 0])) (loopD z5m.xe z5o (loopC z2t))] (by kernel_rfl) ⟨zo2, trivial⟩) (by kernel_rfl) z11n (fun x => by kernel_rfl)
def z1co : Env := ⟨[(entQ ztr zqp), (entQ zez ze5), (entQ zcp zbq), (entQ zi0 zgi)], [], []⟩
theorem zth : EnvsOK Try.prog z1co := ⟨z0p (z0q z16c) (z0p (z0q zh5) (z0p (z0q zdf) (z0p (z0q zkw) (z0x _)))), z0t _, z0u _⟩
def zbk : Shp := ⟨85, 0, [(0, .d c3), (3, .pt 0 r8 []), (4, .pt 1 r13 []), (5, .pt 2 r13 []), (6, .d (.int .i64))], [.var 67 (.d c9), .var 49 (.d c14), .var 49 (.d c14)]⟩
def z8s : XS := .one .normal zbk.xe
theorem zhv : z8s.OK := XS.one_ok (z0c zbk)
def zax : Shp := ⟨85, 0, [(0, .d c3), (3, .pt 0 r8 []), (4, .pt 1 r13 []), (5, .pt 2 r13 []), (6, .d (.int .i64)), (50, .d .bool)], [.var 67 (.d c9), .var 49 (.d c14), .var 49 (.d c14)]⟩
def z7o : XS := .one .normal zax.xe
theorem zgx : z7o.OK := XS.one_ok (z0c zax)
def zgn : Shp := ⟨85, 0, [(4, .pt 0 r13 []), (5, .pt 1 r13 [])], [.var 49 (.d c14), .var 49 (.d c14)]⟩
def z7b : XS := .one (.exit 0) zgn.xe
theorem zq4 : z7b.OK := XS.one_ok (z0c zgn)
def z7a : Shp := ⟨85, 0, [(0, .d c3), (3, .pt 0 r8 []), (4, .pt 1 r13 []), (5, .pt 2 r13 []), (6, .d (.int .i64))], [.var 67 (.d c9), .var 49 (.d c14), .var 49 (.d c14)]⟩
abbrev zcw := (List T1) × Int × T1 × T4 × T4
abbrev zik := (T4 × T4)
def zcr (l : List T1) (i : Int) (t3 : T1) (t4 : T4) (o : T4) : Option (zcw ⊕ zik) :=
 z1f (List.length l) (
 bif ltI i (List.length l : Nat) then
 (idxI l i).bind fun x =>
 bif !(eqU c0 x.2.2.2.1 t3.1) then
 some (.inl (l, W64 (i + 1), t3, t4, o))
 else
 (show Option (((List T1) × Int × T1 × T4 × T4)) from
 (show Option (((List T1) × Int × Bool × T1 × T4 × T4)) from
 (idxI l i).bind fun x2 =>
 bif eqI x2.2.2.1 7 then
 (idxI l i).bind fun x3 =>
 (zct o.2.2.1 x3.1).bind fun r =>
 some (l, i, r, t3, t4, o)
 else
 some (l, i, false, t3, t4, o)).bind fun j =>
 bif j.2.2.1 then
 (idxI j.1 j.2.1).bind fun x4 =>
 (idxI j.1 j.2.1).bind fun x5 =>
 some (j.1, j.2.1, j.2.2.2.1, j.2.2.2.2.1, ((j.2.2.2.2.2.1, j.2.2.2.2.2.2.1, x4.1, j.2.2.2.2.2.2.2.2).1, (j.2.2.2.2.2.1, j.2.2.2.2.2.2.1, x4.1, j.2.2.2.2.2.2.2.2).2.1, (j.2.2.2.2.2.1, j.2.2.2.2.2.2.1, x4.1, j.2.2.2.2.2.2.2.2).2.2.1, x5.2.2.2.2.2.1, (j.2.2.2.2.2.1, j.2.2.2.2.2.2.1, x4.1, j.2.2.2.2.2.2.2.2).2.2.2.2))
 else
 some (j.1, j.2.1, j.2.2.2.1, j.2.2.2.2.1, j.2.2.2.2.2)).bind fun j2 =>
 (idxI j2.1 j2.2.1).bind fun x6 =>
 bif eqI x6.2.2.1 6 then
 (idxI j2.1 j2.2.1).bind fun x7 =>
 (idxI j2.1 j2.2.1).bind fun x8 =>
 (zca x7.2.1 x8.1).bind fun r2 =>
 (zg0 j2.2.2.2.2.2.2.2.2.1 r2).bind fun r3 =>
 some (.inl (j2.1, W64 (j2.2.1 + 1), j2.2.2.1, j2.2.2.2.1, (j2.2.2.2.2.1, j2.2.2.2.2.2.1, j2.2.2.2.2.2.2.1, j2.2.2.2.2.2.2.2.1, r3, j2.2.2.2.2.2.2.2.2.2)))
 else
 some (.inl (j2.1, W64 (j2.2.1 + 1), j2.2.2.1, j2.2.2.2.1, j2.2.2.2.2))
 else
 some (.inr (t4, o)))
def z3o (s : zcw) : Option (zcw ⊕ zik) := zcr s.1 s.2.1 s.2.2.1 s.2.2.2.1 s.2.2.2.2
theorem zqc : SoundD Try.prog (.loop (subC (bodyC Try.f30) [1, 1, 0, 1, 0, 0])) (loopD z7a.xe z7b (loopC z3o)) :=
 z0w (S := z7a.xe) (X := z7b) zth (h := (.two .no (.two (.two .no (.join (fun _ => z8s) (.join (fun _ => z7o) .no .no) .no)) .no))) (z0o [.xs (fun _ => z8s), .xs (fun _ => z7o)] (by kernel_rfl) ⟨(z5r zhv), (z5r zgx), trivial⟩) (z0c z7a) zq4 z3o (fun s => by kernel_rfl)
def ztf : Shp := ⟨1, 0, [(0, .d c14)], []⟩
def zxp : XS := .one .ret ztf.xe
theorem z16e : zxp.OK := XS.one_ok (z0c ztf)
def zmb (l : List T1) (t1 : T1) : Option ((T4)) :=
 (zim l t1.1).bind fun r =>
 (loopC z3o (l, 0, t1, ((0, 0), false, (0, 0), [], List.replicate 8 (0 : Int), []), (t1.1, eqI t1.2.2.1 2, t1.1, t1.2.2.2.2.2.1, List.replicate 8 (0 : Int), r))).bind fun o =>
 some o.2
def zxz : Sig := ⟨30, [.d c3, .d c9], [], 0, zxp⟩
def zv5 (x : (List T1) × T1) : Option ((T4)) := zmb x.1 x.2
theorem z1c1 : FnOK Try.prog zxz zv5 :=
 fn_ok zth (h := (.two .no (.two .no (.two (.two .no (.over (loopD z7a.xe z7b (loopC z3o)))) .no)))) Try.func30 (z0o [.den (.loop (subC (bodyC Try.f30) [1, 1, 0, 1, 0, 0])) (loopD z7a.xe z7b (loopC z3o))] (by kernel_rfl) ⟨zqc, trivial⟩) (by kernel_rfl) z16e (fun x => by kernel_rfl)
def z1i8 : Env := ⟨[], [], []⟩
theorem z10x : EnvsOK Try.prog z1i8 := ⟨z0x _, z0t _, z0u _⟩
def zlf : Shp := ⟨17, 0, [], []⟩
def zly : Shp := ⟨17, 0, [(4, .d (.int .u32))], []⟩
def zai : XS := .or (.exit 0) zlf.xe (.one .ret zly.xe)
theorem zw1 : zai.OK := XS.or_ok (z0c zlf) (XS.one_ok (z0c zly))
def zae : Shp := ⟨17, 0, [(1, .d (.int .i64)), (2, .pt 0 (.one (.arr 8 .leaf)) []), (5, .d (.int .i64))], [.var 25 (.d c1)]⟩
abbrev zgy := Int × Int × (List Int)
abbrev znu := (Unit) ⊕ (Int)
def zgs (rep : Int) (i : Int) (v : List Int) : Option (zgy ⊕ znu) :=
 bif ltI i 8 then
 bif eqI (W64 (i + 1)) rep then
 bif inI i 8 then
 (v[i.toNat]?).bind fun x =>
 some (.inr (.inr x))
 else none
 else
 some (.inl (rep, W64 (i + 1), v))
 else
 some (.inr (.inl ()))
def z5x (s : zgy) : Option (zgy ⊕ znu) := zgs s.1 s.2.1 s.2.2
theorem zwv : SoundD Try.prog (.loop (subC (bodyC Try.f32) [1, 0, 1, 0, 0])) (loopD zae.xe zai (loopC z5x)) :=
 z0w (S := zae.xe) (X := zai) z10x (h := .no) (z0o [] (by kernel_rfl) trivial) (z0c zae) zw1 z5x (fun s => by kernel_rfl)
def z10k : Shp := ⟨1, 0, [(0, .d (.int .u32))], []⟩
def z17p : XS := .one .ret z10k.xe
theorem z1d4 : z17p.OK := XS.one_ok (z0c z10k)
def zur (v : List Int) (rep : Int) : Option ((Int)) :=
 (loopC z5x (rep, 0, v)).bind fun o =>
 Sum.elim (fun y =>
 some 0) (fun y2 =>
 some y2) o
def z17m : Sig := ⟨32, [.d c1, .d (.int .i64)], [], 0, z17p⟩
def z12c (x : (List Int) × Int) : Option ((Int)) := zur x.1 x.2
theorem z1gb : FnOK Try.prog z17m z12c :=
 fn_ok z10x (h := (.two .no (.two (.two .no (.over (loopD zae.xe zai (loopC z5x)))) .no))) Try.func32 (z0o [.den (.loop (subC (bodyC Try.f32) [1, 0, 1, 0, 0])) (loopD zae.xe zai (loopC z5x))] (by kernel_rfl) ⟨zwv, trivial⟩) (by kernel_rfl) z1d4 (fun x => by kernel_rfl)
def z1f2 : Env := ⟨[(entQ z10s zws), (entQ zvh zt3), (entQ zxz zv5), (entQ zez ze5), (entQ z17m z12c), (entQ zcp zbq)], [], []⟩
theorem zn6 : EnvsOK Try.prog z1f2 := ⟨z0p (z0q z1cb) (z0p (z0q z19f) (z0p (z0q z1c1) (z0p (z0q zh5) (z0p (z0q z1gb) (z0p (z0q zdf) (z0x _)))))), z0t _, z0u _⟩
def zb9 : Shp := ⟨108, 0, [(0, .d c3), (2, .pt 0 r15 []), (3, .pt 1 r15 []), (4, .pt 2 (.one (.arr 8 .leaf)) []), (5, .d (.int .i64)), (6, .pt 3 r8 [])], [.var 33 (.ag [.d c1, .wn 4 c14, .wn 5 c6, .d c16, .d (.arr 8 .bool)]), .var 33 (.ag [.d c1, .wn 6 c14, .d c5, .d c16, .d (.arr 8 .bool)]), .var 25 (.d c1), .var 67 (.d c9), .row 49 c14, .row 45 c6, .row 49 c14]⟩
def z8b : XS := .one .normal zb9.xe
theorem zha : z8b.OK := XS.one_ok (z0c zb9)
def zaj : Shp := ⟨108, 0, [(0, .d c3), (2, .pt 0 r15 []), (3, .pt 1 r15 []), (4, .pt 2 (.one (.arr 8 .leaf)) []), (5, .d (.int .i64)), (6, .pt 3 r8 []), (33, .d .bool)], [.var 33 (.ag [.d c1, .wn 4 c14, .wn 5 c6, .d c16, .d (.arr 8 .bool)]), .var 33 (.ag [.d c1, .wn 6 c14, .d c5, .d c16, .d (.arr 8 .bool)]), .var 25 (.d c1), .var 67 (.d c9), .row 49 c14, .row 45 c6, .row 49 c14]⟩
def z7f : XS := .one .normal zaj.xe
theorem zgm : z7f.OK := XS.one_ok (z0c zaj)
def z5u : Shp := ⟨108, 0, [(0, .d c3), (2, .pt 0 r15 []), (3, .pt 1 r15 []), (4, .pt 2 (.one (.arr 8 .leaf)) []), (5, .d (.int .i64)), (6, .pt 3 r8 []), (7, .pt 4 r13 []), (8, .d (.int .i64))], [.var 33 (.ag [.d c1, .wn 5 c14, .wn 6 c6, .d c16, .d (.arr 8 .bool)]), .var 33 (.ag [.d c1, .wn 7 c14, .d c5, .d c16, .d (.arr 8 .bool)]), .var 25 (.d c1), .var 67 (.d c9), .var 49 (.d c14), .row 49 c14, .row 45 c6, .row 49 c14]⟩
def z1n : XS := .one (.exit 2) z5u.xe
theorem zbt : z1n.OK := XS.one_ok (z0c z5u)
def z1o : Shp := ⟨108, 0, [(0, .d c3), (2, .pt 0 r15 []), (3, .pt 1 r15 []), (4, .pt 2 (.one (.arr 8 .leaf)) []), (5, .d (.int .i64)), (6, .pt 3 r8 []), (7, .pt 4 r13 []), (8, .d (.int .i64))], [.var 33 (.ag [.d c1, .wn 5 c14, .wn 6 c6, .d c16, .d (.arr 8 .bool)]), .var 33 (.ag [.d c1, .wn 7 c14, .d c5, .d c16, .d (.arr 8 .bool)]), .var 25 (.d c1), .var 67 (.d c9), .var 49 (.d c14), .row 49 c14, .row 45 c6, .row 49 c14]⟩
abbrev z3l := (List T1) × Int × Int × (List Int) × (List Int) × (List Bool) × (List Int) × (List T2) × (List Int) × (List Bool) × (List Int) × T1 × T4 × (List T4) × (List T2) × (List T4)
abbrev z6m := ((List T1) × Int × Int × (List Int) × (List Int) × (List Bool) × (List Int) × (List T2) × (List Int) × (List Bool) × (List Int) × T1 × T4 × (List T4) × (List T2) × (List T4))
def z3k (l : List T1) (i : Int) (k : Int) (t2 : List Int) (t22 : List Int) (t23 : List Bool) (t3 : List Int) (t32 : List T2) (t33 : List Int) (t34 : List Bool) (latest : List Int) (t6 : T1) (o : T4) (t24 : List T4) (t25 : List T2) (t35 : List T4) : Option (z3l ⊕ z6m) :=
 bif ltI 0 k then
 bif inI (W64 (k - 1)) (List.length t35) then
 (t35[(W64 (k - 1)).toNat]?).bind fun x =>
 (zct o.1 x.1).bind fun r =>
 bif r then
 bif Nat.beq (List.length t24) (List.length t24) then
 bif Nat.beq (List.length t25) (List.length t25) then
 bif Nat.beq (List.length t35) (List.length t35) then
 some (.inl (l, i, W64 (k - 1), t2, t22, t23, t3, t32, t33, t34, latest, t6, o, t24, t25, t35))
 else none
 else none
 else none
 else
 bif Nat.beq (List.length t24) (List.length t24) then
 bif Nat.beq (List.length t25) (List.length t25) then
 bif Nat.beq (List.length t35) (List.length t35) then
 some (.inr (l, i, k, t2, t22, t23, t3, t32, t33, t34, latest, t6, o, t24, t25, t35))
 else none
 else none
 else none
 else none
 else
 bif Nat.beq (List.length t24) (List.length t24) then
 bif Nat.beq (List.length t25) (List.length t25) then
 bif Nat.beq (List.length t35) (List.length t35) then
 some (.inr (l, i, k, t2, t22, t23, t3, t32, t33, t34, latest, t6, o, t24, t25, t35))
 else none
 else none
 else none
def z0y (s : z3l) : Option (z3l ⊕ z6m) := z3k s.1 s.2.1 s.2.2.1 s.2.2.2.1 s.2.2.2.2.1 s.2.2.2.2.2.1 s.2.2.2.2.2.2.1 s.2.2.2.2.2.2.2.1 s.2.2.2.2.2.2.2.2.1 s.2.2.2.2.2.2.2.2.2.1 s.2.2.2.2.2.2.2.2.2.2.1 s.2.2.2.2.2.2.2.2.2.2.2.1 s.2.2.2.2.2.2.2.2.2.2.2.2.1 s.2.2.2.2.2.2.2.2.2.2.2.2.2.1 s.2.2.2.2.2.2.2.2.2.2.2.2.2.2.1 s.2.2.2.2.2.2.2.2.2.2.2.2.2.2.2
theorem zbz : SoundD Try.prog (.loop (subC (bodyC Try.f10) [1, 1, 1, 0, 1, 0, 0, 1, 0, 0, 1, 0, 1, 0, 1, 1, 0, 0, 0])) (loopD z1o.xe z1n (loopC z0y)) :=
 z0w (S := z1o.xe) (X := z1n) zn6 (h := .no) (z0o [] (by kernel_rfl) trivial) (z0c z1o) zbt z0y (fun s => by kernel_rfl)
def zad : Shp := ⟨108, 0, [(0, .d c3), (2, .pt 0 r15 []), (3, .pt 1 r15 []), (4, .pt 2 (.one (.arr 8 .leaf)) []), (5, .d (.int .i64)), (6, .pt 3 r8 [])], [.var 33 (.ag [.d c1, .wn 4 c14, .wn 5 c6, .d c16, .d (.arr 8 .bool)]), .var 33 (.ag [.d c1, .wn 6 c14, .d c5, .d c16, .d (.arr 8 .bool)]), .var 25 (.d c1), .var 67 (.d c9), .row 49 c14, .row 45 c6, .row 49 c14]⟩
def z6w : XS := .one .normal zad.xe
theorem zgd : z6w.OK := XS.one_ok (z0c zad)
def za7 : Shp := ⟨108, 0, [(0, .d c3), (2, .pt 0 r15 []), (3, .pt 1 r15 []), (4, .pt 2 (.one (.arr 8 .leaf)) []), (5, .d (.int .i64)), (6, .pt 3 r8 []), (85, .d .bool)], [.var 33 (.ag [.d c1, .wn 4 c14, .wn 5 c6, .d c16, .d (.arr 8 .bool)]), .var 33 (.ag [.d c1, .wn 6 c14, .d c5, .d c16, .d (.arr 8 .bool)]), .var 25 (.d c1), .var 67 (.d c9), .row 49 c14, .row 45 c6, .row 49 c14]⟩
def z5z : XS := .one .normal za7.xe
theorem zfe : z5z.OK := XS.one_ok (z0c za7)
def zfj : Shp := ⟨108, 0, [(2, .pt 0 r15 []), (3, .pt 1 r15 [])], [.var 33 (.ag [.d c1, .wn 2 c14, .wn 3 c6, .d c16, .d (.arr 8 .bool)]), .var 33 (.ag [.d c1, .wn 4 c14, .d c5, .d c16, .d (.arr 8 .bool)]), .row 49 c14, .row 45 c6, .row 49 c14]⟩
def z6f : XS := .one (.exit 0) zfj.xe
theorem zot : z6f.OK := XS.one_ok (z0c zfj)
def z6g : Shp := ⟨108, 0, [(0, .d c3), (2, .pt 0 r15 []), (3, .pt 1 r15 []), (4, .pt 2 (.one (.arr 8 .leaf)) []), (5, .d (.int .i64))], [.var 33 (.ag [.d c1, .wn 3 c14, .wn 4 c6, .d c16, .d (.arr 8 .bool)]), .var 33 (.ag [.d c1, .wn 5 c14, .d c5, .d c16, .d (.arr 8 .bool)]), .var 25 (.d c1), .row 49 c14, .row 45 c6, .row 49 c14]⟩
abbrev zc7 := (List T1) × Int × (List Int) × (List Int) × (List Bool) × (List Int) × (List T2) × (List Int) × (List Bool) × (List Int) × (List T4) × (List T2) × (List T4)
abbrev zh0 := ((List Int) × (List Int) × (List Bool) × (List Int) × (List T2) × (List Int) × (List Bool) × (List T4) × (List T2) × (List T4))
def zc1 (l : List T1) (i : Int) (t2 : List Int) (t22 : List Int) (t23 : List Bool) (t3 : List Int) (t32 : List T2) (t33 : List Int) (t34 : List Bool) (latest : List Int) (t24 : List T4) (t25 : List T2) (t35 : List T4) : Option (zc7 ⊕ zh0) :=
 z1f (List.length l) (
 bif ltI i (List.length l : Nat) then
 (idxI l i).bind fun x =>
 (show Option (((List T1) × Int × (List Int) × (List Int) × (List Bool) × (List Int) × (List T2) × (List Int) × (List Bool) × (List Int) × T1 × (List T4) × (List T2) × (List T4))) from
 (show Option (((List T1) × Int × Bool × (List Int) × (List Int) × (List Bool) × (List Int) × (List T2) × (List Int) × (List Bool) × (List Int) × T1 × (List T4) × (List T2) × (List T4))) from
 bif eqI x.2.2.1 1 then
 bif Nat.beq (List.length t24) (List.length t24) then
 bif Nat.beq (List.length t25) (List.length t25) then
 bif Nat.beq (List.length t35) (List.length t35) then
 some (l, i, true, t2, t22, t23, t3, t32, t33, t34, latest, x, t24, t25, t35)
 else none
 else none
 else none
 else
 bif Nat.beq (List.length t24) (List.length t24) then
 bif Nat.beq (List.length t25) (List.length t25) then
 bif Nat.beq (List.length t35) (List.length t35) then
 some (l, i, eqI x.2.2.1 2, t2, t22, t23, t3, t32, t33, t34, latest, x, t24, t25, t35)
 else none
 else none
 else none).bind fun j =>
 bif j.2.2.1 then
 (zmb j.1 j.2.2.2.2.2.2.2.2.2.2.2.1).bind fun r =>
 z1f (List.length j.2.2.2.2.2.2.2.2.2.2.2.2.2.2) (
 bif Nat.beq (List.length j.2.2.2.2.2.2.2.2.2.2.2.2.1) (List.length j.2.2.2.2.2.2.2.2.2.2.2.2.1) then
 bif Nat.beq (List.length j.2.2.2.2.2.2.2.2.2.2.2.2.2.1) (List.length j.2.2.2.2.2.2.2.2.2.2.2.2.2.1) then
 bif Nat.beq (List.length j.2.2.2.2.2.2.2.2.2.2.2.2.2.2) (List.length j.2.2.2.2.2.2.2.2.2.2.2.2.2.2) then
 (loopC z0y (j.1, j.2.1, (List.length j.2.2.2.2.2.2.2.2.2.2.2.2.2.2 : Nat), j.2.2.2.1, j.2.2.2.2.1, j.2.2.2.2.2.1, j.2.2.2.2.2.2.1, j.2.2.2.2.2.2.2.1, j.2.2.2.2.2.2.2.2.1, j.2.2.2.2.2.2.2.2.2.1, j.2.2.2.2.2.2.2.2.2.2.1, j.2.2.2.2.2.2.2.2.2.2.2.1, r, j.2.2.2.2.2.2.2.2.2.2.2.2.1, j.2.2.2.2.2.2.2.2.2.2.2.2.2.1, j.2.2.2.2.2.2.2.2.2.2.2.2.2.2)).bind fun o =>
 bif subOk o.2.2.1 (List.length o.2.2.2.2.2.2.2.2.2.2.2.2.2.2.2 : Nat) (List.length o.2.2.2.2.2.2.2.2.2.2.2.2.2.2.2) then
 winK o.2.2.2.2.2.2.2.2.2.2.2.2.2.2.2 o.2.2.1.toNat ((List.length o.2.2.2.2.2.2.2.2.2.2.2.2.2.2.2) - o.2.2.1.toNat) fun w =>
 appG (List.length ([o.2.2.2.2.2.2.2.2.2.2.2.2.1] : List T4)) (List.length w) 112 fun _ =>
 bif subOk 0 o.2.2.1 (List.length o.2.2.2.2.2.2.2.2.2.2.2.2.2.2.2) then
 winK o.2.2.2.2.2.2.2.2.2.2.2.2.2.2.2 0 o.2.2.1.toNat fun w2 =>
 appG (List.length ([] : List T4)) (List.length w2) 112 fun _ =>
 bif Nat.beq (List.length w2) (List.length w2) then
 appG (List.length w2) (List.length (([o.2.2.2.2.2.2.2.2.2.2.2.2.1] : List T4) ++ w)) 112 fun _ =>
 bif Nat.beq (List.length o.2.2.2.2.2.2.2.2.2.2.2.2.2.1) (List.length o.2.2.2.2.2.2.2.2.2.2.2.2.2.1) then
 bif Nat.beq (List.length o.2.2.2.2.2.2.2.2.2.2.2.2.2.2.1) (List.length o.2.2.2.2.2.2.2.2.2.2.2.2.2.2.1) then
 bif Nat.beq (List.length (w2 ++ (([o.2.2.2.2.2.2.2.2.2.2.2.2.1] : List T4) ++ w))) (List.length (w2 ++ (([o.2.2.2.2.2.2.2.2.2.2.2.2.1] : List T4) ++ w))) then
 some (o.1, o.2.1, o.2.2.2.1, o.2.2.2.2.1, o.2.2.2.2.2.1, o.2.2.2.2.2.2.1, o.2.2.2.2.2.2.2.1, o.2.2.2.2.2.2.2.2.1, o.2.2.2.2.2.2.2.2.2.1, o.2.2.2.2.2.2.2.2.2.2.1, o.2.2.2.2.2.2.2.2.2.2.2.1, o.2.2.2.2.2.2.2.2.2.2.2.2.2.1, o.2.2.2.2.2.2.2.2.2.2.2.2.2.2.1, w2 ++ (([o.2.2.2.2.2.2.2.2.2.2.2.2.1] : List T4) ++ w))
 else none
 else none
 else none
 else none
 else none
 else none
 else none
 else none
 else none)
 else
 bif Nat.beq (List.length j.2.2.2.2.2.2.2.2.2.2.2.2.1) (List.length j.2.2.2.2.2.2.2.2.2.2.2.2.1) then
 bif Nat.beq (List.length j.2.2.2.2.2.2.2.2.2.2.2.2.2.1) (List.length j.2.2.2.2.2.2.2.2.2.2.2.2.2.1) then
 bif Nat.beq (List.length j.2.2.2.2.2.2.2.2.2.2.2.2.2.2) (List.length j.2.2.2.2.2.2.2.2.2.2.2.2.2.2) then
 some (j.1, j.2.1, j.2.2.2.1, j.2.2.2.2.1, j.2.2.2.2.2.1, j.2.2.2.2.2.2.1, j.2.2.2.2.2.2.2.1, j.2.2.2.2.2.2.2.2.1, j.2.2.2.2.2.2.2.2.2.1, j.2.2.2.2.2.2.2.2.2.2.1, j.2.2.2.2.2.2.2.2.2.2.2.1, j.2.2.2.2.2.2.2.2.2.2.2.2.1, j.2.2.2.2.2.2.2.2.2.2.2.2.2.1, j.2.2.2.2.2.2.2.2.2.2.2.2.2.2)
 else none
 else none
 else none).bind fun j2 =>
 (show Option (((List T1) × Int × (List Int) × (List Int) × (List Bool) × (List Int) × (List T2) × (List Int) × (List Bool) × (List Int) × T1 × (List T4) × (List T2) × (List T4))) from
 (show Option (((List T1) × Int × Bool × (List Int) × (List Int) × (List Bool) × (List Int) × (List T2) × (List Int) × (List Bool) × (List Int) × T1 × (List T4) × (List T2) × (List T4))) from
 bif eqI j2.2.2.2.2.2.2.2.2.2.2.1.2.2.1 8 then
 (zur j2.2.2.2.2.2.2.2.2.2.1 j2.2.2.2.2.2.2.2.2.2.2.1.1.1).bind fun r2 =>
 bif Nat.beq (List.length j2.2.2.2.2.2.2.2.2.2.2.2.1) (List.length j2.2.2.2.2.2.2.2.2.2.2.2.1) then
 bif Nat.beq (List.length j2.2.2.2.2.2.2.2.2.2.2.2.2.1) (List.length j2.2.2.2.2.2.2.2.2.2.2.2.2.1) then
 bif Nat.beq (List.length j2.2.2.2.2.2.2.2.2.2.2.2.2.2) (List.length j2.2.2.2.2.2.2.2.2.2.2.2.2.2) then
 some (j2.1, j2.2.1, ltI r2 j2.2.2.2.2.2.2.2.2.2.2.1.1.2, j2.2.2.1, j2.2.2.2.1, j2.2.2.2.2.1, j2.2.2.2.2.2.1, j2.2.2.2.2.2.2.1, j2.2.2.2.2.2.2.2.1, j2.2.2.2.2.2.2.2.2.1, j2.2.2.2.2.2.2.2.2.2.1, j2.2.2.2.2.2.2.2.2.2.2.1, j2.2.2.2.2.2.2.2.2.2.2.2.1, j2.2.2.2.2.2.2.2.2.2.2.2.2.1, j2.2.2.2.2.2.2.2.2.2.2.2.2.2)
 else none
 else none
 else none
 else
 bif Nat.beq (List.length j2.2.2.2.2.2.2.2.2.2.2.2.1) (List.length j2.2.2.2.2.2.2.2.2.2.2.2.1) then
 bif Nat.beq (List.length j2.2.2.2.2.2.2.2.2.2.2.2.2.1) (List.length j2.2.2.2.2.2.2.2.2.2.2.2.2.1) then
 bif Nat.beq (List.length j2.2.2.2.2.2.2.2.2.2.2.2.2.2) (List.length j2.2.2.2.2.2.2.2.2.2.2.2.2.2) then
 some (j2.1, j2.2.1, false, j2.2.2.1, j2.2.2.2.1, j2.2.2.2.2.1, j2.2.2.2.2.2.1, j2.2.2.2.2.2.2.1, j2.2.2.2.2.2.2.2.1, j2.2.2.2.2.2.2.2.2.1, j2.2.2.2.2.2.2.2.2.2.1, j2.2.2.2.2.2.2.2.2.2.2.1, j2.2.2.2.2.2.2.2.2.2.2.2.1, j2.2.2.2.2.2.2.2.2.2.2.2.2.1, j2.2.2.2.2.2.2.2.2.2.2.2.2.2)
 else none
 else none
 else none).bind fun j3 =>
 bif j3.2.2.1 then
 (zca j3.2.2.2.2.2.2.2.2.2.2.1 j3.2.2.2.2.2.2.2.2.2.2.2.1.1).bind fun r3 =>
 bif inI (W64 (j3.2.2.2.2.2.2.2.2.2.2.2.1.1.1 - 1)) 8 then
 (j3.2.2.2.2.2.2.2.2.1[(W64 (j3.2.2.2.2.2.2.2.2.2.2.2.1.1.1 - 1)).toNat]?).bind fun _x =>
 bif Nat.beq (List.length j3.2.2.2.2.2.2.2.2.2.2.2.2.1) (List.length j3.2.2.2.2.2.2.2.2.2.2.2.2.1) then
 bif Nat.beq (List.length j3.2.2.2.2.2.2.2.2.2.2.2.2.2.1) (List.length j3.2.2.2.2.2.2.2.2.2.2.2.2.2.1) then
 bif Nat.beq (List.length j3.2.2.2.2.2.2.2.2.2.2.2.2.2.2) (List.length j3.2.2.2.2.2.2.2.2.2.2.2.2.2.2) then
 some ((j3.1, j3.2.1, j3.2.2.2.1, j3.2.2.2.2.1, j3.2.2.2.2.2.1, j3.2.2.2.2.2.2.1, j3.2.2.2.2.2.2.2.1, j3.2.2.2.2.2.2.2.2.1.set ((W64 (j3.2.2.2.2.2.2.2.2.2.2.2.1.1.1 - 1)).toNat) j3.2.2.2.2.2.2.2.2.2.2.2.1.2.2.2.2.2.2.2.2.2.2, j3.2.2.2.2.2.2.2.2.2.1, r3, j3.2.2.2.2.2.2.2.2.2.2.2.1, j3.2.2.2.2.2.2.2.2.2.2.2.2.1, j3.2.2.2.2.2.2.2.2.2.2.2.2.2.1, j3.2.2.2.2.2.2.2.2.2.2.2.2.2.2))
 else none
 else none
 else none
 else none
 else
 bif Nat.beq (List.length j3.2.2.2.2.2.2.2.2.2.2.2.2.1) (List.length j3.2.2.2.2.2.2.2.2.2.2.2.2.1) then
 bif Nat.beq (List.length j3.2.2.2.2.2.2.2.2.2.2.2.2.2.1) (List.length j3.2.2.2.2.2.2.2.2.2.2.2.2.2.1) then
 bif Nat.beq (List.length j3.2.2.2.2.2.2.2.2.2.2.2.2.2.2) (List.length j3.2.2.2.2.2.2.2.2.2.2.2.2.2.2) then
 some (j3.1, j3.2.1, j3.2.2.2.1, j3.2.2.2.2.1, j3.2.2.2.2.2.1, j3.2.2.2.2.2.2.1, j3.2.2.2.2.2.2.2.1, j3.2.2.2.2.2.2.2.2.1, j3.2.2.2.2.2.2.2.2.2.1, j3.2.2.2.2.2.2.2.2.2.2.1, j3.2.2.2.2.2.2.2.2.2.2.2.1, j3.2.2.2.2.2.2.2.2.2.2.2.2.1, j3.2.2.2.2.2.2.2.2.2.2.2.2.2.1, j3.2.2.2.2.2.2.2.2.2.2.2.2.2.2)
 else none
 else none
 else none).bind fun j4 =>
 bif eqI j4.2.2.2.2.2.2.2.2.2.2.1.2.2.1 9 then
 bif inI (W64 (j4.2.2.2.2.2.2.2.2.2.2.1.1.1 - 1)) 8 then
 (j4.2.2.2.2.2.2.2.2.1[(W64 (j4.2.2.2.2.2.2.2.2.2.2.1.1.1 - 1)).toNat]?).bind fun _x2 =>
 bif Nat.beq (List.length j4.2.2.2.2.2.2.2.2.2.2.2.1) (List.length j4.2.2.2.2.2.2.2.2.2.2.2.1) then
 bif Nat.beq (List.length j4.2.2.2.2.2.2.2.2.2.2.2.2.1) (List.length j4.2.2.2.2.2.2.2.2.2.2.2.2.1) then
 bif Nat.beq (List.length j4.2.2.2.2.2.2.2.2.2.2.2.2.2) (List.length j4.2.2.2.2.2.2.2.2.2.2.2.2.2) then
 some (.inl ((j4.1, W64 (j4.2.1 + 1), j4.2.2.1, j4.2.2.2.1, j4.2.2.2.2.1, j4.2.2.2.2.2.1, j4.2.2.2.2.2.2.1, j4.2.2.2.2.2.2.2.1, j4.2.2.2.2.2.2.2.2.1.set ((W64 (j4.2.2.2.2.2.2.2.2.2.2.1.1.1 - 1)).toNat) true, j4.2.2.2.2.2.2.2.2.2.1, j4.2.2.2.2.2.2.2.2.2.2.2.1, j4.2.2.2.2.2.2.2.2.2.2.2.2.1, j4.2.2.2.2.2.2.2.2.2.2.2.2.2)))
 else none
 else none
 else none
 else none
 else
 bif Nat.beq (List.length j4.2.2.2.2.2.2.2.2.2.2.2.1) (List.length j4.2.2.2.2.2.2.2.2.2.2.2.1) then
 bif Nat.beq (List.length j4.2.2.2.2.2.2.2.2.2.2.2.2.1) (List.length j4.2.2.2.2.2.2.2.2.2.2.2.2.1) then
 bif Nat.beq (List.length j4.2.2.2.2.2.2.2.2.2.2.2.2.2) (List.length j4.2.2.2.2.2.2.2.2.2.2.2.2.2) then
 some (.inl (j4.1, W64 (j4.2.1 + 1), j4.2.2.1, j4.2.2.2.1, j4.2.2.2.2.1, j4.2.2.2.2.2.1, j4.2.2.2.2.2.2.1, j4.2.2.2.2.2.2.2.1, j4.2.2.2.2.2.2.2.2.1, j4.2.2.2.2.2.2.2.2.2.1, j4.2.2.2.2.2.2.2.2.2.2.2.1, j4.2.2.2.2.2.2.2.2.2.2.2.2.1, j4.2.2.2.2.2.2.2.2.2.2.2.2.2))
 else none
 else none
 else none
 else
 bif Nat.beq (List.length t24) (List.length t24) then
 bif Nat.beq (List.length t25) (List.length t25) then
 bif Nat.beq (List.length t35) (List.length t35) then
 some (.inr (t2, t22, t23, t3, t32, t33, t34, t24, t25, t35))
 else none
 else none
 else none)
def z2y (s : zc7) : Option (zc7 ⊕ zh0) := zc1 s.1 s.2.1 s.2.2.1 s.2.2.2.1 s.2.2.2.2.1 s.2.2.2.2.2.1 s.2.2.2.2.2.2.1 s.2.2.2.2.2.2.2.1 s.2.2.2.2.2.2.2.2.1 s.2.2.2.2.2.2.2.2.2.1 s.2.2.2.2.2.2.2.2.2.2.1 s.2.2.2.2.2.2.2.2.2.2.2.1 s.2.2.2.2.2.2.2.2.2.2.2.2
theorem zpr : SoundD Try.prog (.loop (subC (bodyC Try.f10) [1, 1, 1, 0, 1, 0, 0])) (loopD z6g.xe z6f (loopC z2y)) :=
 z0w (S := z6g.xe) (X := z6f) zn6 (h := (.two .no (.two (.two .no (.join (fun _ => z8b) (.join (fun _ => z7f) .no (.two (.two .no (.two .no (.two (.over (loopD z1o.xe z1n (loopC z0y))) (.two .no (.reg [5] []))))) .no)) (.join (fun _ => z6w) (.join (fun _ => z5z) .no .no) .no))) .no))) (z0o [.xs (fun _ => z8b), .xs (fun _ => z7f), .den (.loop (subC (bodyC Try.f10) [1, 1, 1, 0, 1, 0, 0, 1, 0, 0, 1, 0, 1, 0, 1, 1, 0, 0, 0])) (loopD z1o.xe z1n (loopC z0y)), .xs (fun _ => z6w), .xs (fun _ => z5z)] (by kernel_rfl) ⟨(z5r zha), (z5r zgm), zbz, (z5r zgd), (z5r zfe), trivial⟩) (z0c z6g) zot z2y (fun s => by kernel_rfl)
def zu8 : Shp := ⟨1, 0, [(0, .d c17)], []⟩
def z10t : XS := .one .ret zu8.xe
theorem z18j : z10t.OK := XS.one_ok (z0c zu8)
def zkf (l : List T1) : Option ((T5)) :=
 (zou l).bind fun r =>
 (zbv l).bind fun r2 =>
 bif Nat.beq 0 (List.length ([] : List T4)) then
 bif Nat.beq 0 (List.length ([] : List T2)) then
 bif Nat.beq 0 (List.length ([] : List T4)) then
 (loopC z2y (l, 0, List.replicate 8 (0 : Int), List.replicate 8 (0 : Int), List.replicate 8 false, r, r2, List.replicate 8 (0 : Int), List.replicate 8 false, List.replicate 8 (0 : Int), ([] : List T4), ([] : List T2), ([] : List T4))).bind fun o =>
 winK o.2.2.2.2.2.2.2.2.2 0 (List.length o.2.2.2.2.2.2.2.2.2) fun w =>
 some (o.2.2.2.1, w, o.2.2.2.2.1, o.2.2.2.2.2.1, o.2.2.2.2.2.2.1)
 else none
 else none
 else none
def z10y : Sig := ⟨10, [.d c3], [], 0, z10t⟩
def zy0 (x : (List T1)) : Option ((T5)) := zkf x
theorem z1d5 : FnOK Try.prog z10y zy0 :=
 fn_ok zn6 (h := (.two .no (.two .no (.two .no (.two (.two .no (.over (loopD z6g.xe z6f (loopC z2y)))) .no))))) Try.func10 (z0o [.den (.loop (subC (bodyC Try.f10) [1, 1, 1, 0, 1, 0, 0])) (loopD z6g.xe z6f (loopC z2y))] (by kernel_rfl) ⟨zpr, trivial⟩) (by kernel_rfl) z18j (fun x => by kernel_rfl)
def z19t : Env := ⟨[], [], []⟩
theorem z13v : EnvsOK Try.prog z19t := ⟨z0x _, z0t _, z0u _⟩
def zp2 : Shp := ⟨1, 0, [(0, .wn 0 c6)], [.row 45 c6]⟩
def zt4 : XS := .one .ret zp2.xe
theorem z11j : zt4.OK := XS.one_ok (z0c zp2)
def zil (t0 : List T2) : Option (((List T2))) :=
 nilK (List.length t0) fun q =>
 bif q then
 bif Nat.beq 0 (List.length ([] : List T2)) then
 some ([] : List T2)
 else none
 else
 appG (List.length ([] : List T2)) (List.length t0) 96 fun _ =>
 bif Nat.beq (List.length t0) (List.length t0) then
 some t0
 else none
def zt2 : Sig := ⟨61, [.d c5], [], 0, zt4⟩
def zqu (x : (List T2)) : Option (((List T2))) := zil x
theorem z16g : FnOK Try.prog zt2 zqu :=
 fn_ok z13v (h := (.two .no (.two .no (.two (.reg [2] []) .no)))) Try.func61 (z0o [] (by kernel_rfl) trivial) (by kernel_rfl) z11j (fun x => by kernel_rfl)
def z19y : Env := ⟨[], [], []⟩
theorem z13n : EnvsOK Try.prog z19y := ⟨z0x _, z0t _, z0u _⟩
def zp9 : Shp := ⟨1, 0, [(0, .wn 0 c11)], [.row 85 c11]⟩
def zsm : XS := .one .ret zp9.xe
theorem z11q : zsm.OK := XS.one_ok (z0c zp9)
def zf0 (t0 : List T3) : Option (((List T3))) :=
 nilK (List.length t0) fun q =>
 bif q then
 bif Nat.beq 0 (List.length ([] : List T3)) then
 some ([] : List T3)
 else none
 else
 appG (List.length ([] : List T3)) (List.length t0) 64 fun _ =>
 bif Nat.beq (List.length t0) (List.length t0) then
 some t0
 else none
def zl6 : Sig := ⟨62, [.d c10], [], 0, zsm⟩
def zjq (x : (List T3)) : Option (((List T3))) := zf0 x
theorem zqx : FnOK Try.prog zl6 zjq :=
 fn_ok z13n (h := (.two .no (.two .no (.two (.reg [2] []) .no)))) Try.func62 (z0o [] (by kernel_rfl) trivial) (by kernel_rfl) z11q (fun x => by kernel_rfl)
def z1fg : Env := ⟨[], [], []⟩
theorem zy3 : EnvsOK Try.prog z1fg := ⟨z0x _, z0t _, z0u _⟩
def zkc : Shp := ⟨22, 0, [], []⟩
def zkb : Shp := ⟨22, 0, [(4, .d .bool)], []⟩
def za2 : XS := .or (.exit 0) zkc.xe (.one .ret zkb.xe)
theorem ztu : za2.OK := XS.or_ok (z0c zkc) (XS.one_ok (z0c zkb))
def z9w : Shp := ⟨22, 0, [(3, .pt 0 (.one (.arr 8 .leaf)) []), (7, .d c1), (8, .d (.int .i64))], [.var 25 (.d c1)]⟩
abbrev zfx := (List Int) × Int × (List Int)
abbrev znb := (Unit) ⊕ (Bool)
def zfq (t7 : List Int) (t8 : Int) (base : List Int) : Option (zfx ⊕ znb) :=
 bif ltI t8 8 then
 (idxI t7 t8).bind fun x =>
 bif ltI 0 x then
 bif inI t8 8 then
 (base[t8.toNat]?).bind fun x2 =>
 bif leI x x2 then
 some (.inr (.inr true))
 else
 some (.inl (t7, W64 (t8 + 1), base))
 else none
 else
 some (.inl (t7, W64 (t8 + 1), base))
 else
 some (.inr (.inl ()))
def z3y (s : zfx) : Option (zfx ⊕ znb) := zfq s.1 s.2.1 s.2.2
theorem zw2 : SoundD Try.prog (.loop (subC (bodyC Try.f65) [1, 0, 1, 0, 0])) (loopD z9w.xe za2 (loopC z3y)) :=
 z0w (S := z9w.xe) (X := za2) zy3 (h := .no) (z0o [] (by kernel_rfl) trivial) (z0c z9w) ztu z3y (fun s => by kernel_rfl)
def zxd : Shp := ⟨1, 0, [(0, .d .bool)], []⟩
def z13k : XS := .one .ret zxd.xe
theorem z1aq : z13k.OK := XS.one_ok (z0c zxd)
def zm9 (t0 : List Int) (base : List Int) : Option ((Bool)) :=
 (loopC z3y (t0, 0, base)).bind fun o =>
 Sum.elim (fun y =>
 some false) (fun y2 =>
 some y2) o
def zta : Sig := ⟨65, [.d c1, .d c1], [], 0, z13k⟩
def zqh (x : (List Int) × (List Int)) : Option ((Bool)) := zm9 x.1 x.2
theorem zzv : FnOK Try.prog zta zqh :=
 fn_ok zy3 (h := (.two .no (.two (.two .no (.over (loopD z9w.xe za2 (loopC z3y)))) .no))) Try.func65 (z0o [.den (.loop (subC (bodyC Try.f65) [1, 0, 1, 0, 0])) (loopD z9w.xe za2 (loopC z3y))] (by kernel_rfl) ⟨zw2, trivial⟩) (by kernel_rfl) z1aq (fun x => by kernel_rfl)
def z1aa : Env := ⟨[(entQ zta zqh)], [], []⟩
theorem z16j : EnvsOK Try.prog z1aa := ⟨z0p (z0q zzv) (z0x _), z0t _, z0u _⟩
def zqs : Shp := ⟨1, 0, [(0, .d .bool)], []⟩
def zv3 : XS := .one .ret zqs.xe
theorem z13o : zv3.OK := XS.one_ok (z0c zqs)
def zbo (x : T2) (t1 : List Int) : Option ((Bool)) :=
 (zm9 x.2.2.2.2 t1).bind fun r =>
 some r
def zmx : Sig := ⟨64, [.d c6, .rf (.d c1)], [], 0, zv3⟩
def zl2 (x : T2 × (List Int)) : Option ((Bool)) := zbo x.1 x.2
theorem zs8 : FnOK Try.prog zmx zl2 :=
 fn_ok z16j (h := .no) Try.func64 (z0o [] (by kernel_rfl) trivial) (by kernel_rfl) z13o (fun x => by kernel_rfl)
def z13g : Env := ⟨[(entQ zmx zl2)], [], []⟩
theorem zmt : EnvsOK Try.prog z13g := ⟨z0p (z0q zs8) (z0x _), z0t _, z0u _⟩
def zep : Shp := ⟨19, 0, [], []⟩
def zeu : Shp := ⟨19, 0, [(4, .d (.int .i64))], []⟩
def z5l : XS := .or (.exit 0) zep.xe (.one .ret zeu.xe)
theorem zno : z5l.OK := XS.or_ok (z0c zep) (XS.one_ok (z0c zeu))
def z5n : Shp := ⟨19, 0, [(0, .d c5), (1, .fn 64 [.rf (.d c1)]), (7, .d (.int .i64)), (8, .d (.int .i64))], []⟩
abbrev zbu := (List T2) × (List Int) × Int × Int
abbrev zgk := (Unit) ⊕ (Int)
def zbr (t0 : List T2) (f : List Int) (t7 : Int) (t8 : Int) : Option (zbu ⊕ zgk) :=
 bif ltI t8 t7 then
 (idxI t0 t8).bind fun x =>
 (zbo x f).bind fun r =>
 bif r then
 some (.inr (.inr t8))
 else
 some (.inl (t0, f, t7, W64 (t8 + 1)))
 else
 some (.inr (.inl ()))
def z2i (s : zbu) : Option (zbu ⊕ zgk) := zbr s.1 s.2.1 s.2.2.1 s.2.2.2
theorem zol : SoundD Try.prog (.loop (subC (bodyC Try.f85) [1, 0, 1, 0, 0])) (loopD z5n.xe z5l (loopC z2i)) :=
 z0w (S := z5n.xe) (X := z5l) zmt (h := .no) (z0o [] (by kernel_rfl) trivial) (z0c z5n) zno z2i (fun s => by kernel_rfl)
def zn7 : Shp := ⟨1, 0, [(0, .d (.int .i64))], []⟩
def zp3 : XS := .one .ret zn7.xe
theorem zwe : zp3.OK := XS.one_ok (z0c zn7)
def zft (t0 : List T2) (f : List Int) : Option ((Int)) :=
 z1f (List.length t0) (
 (loopC z2i (t0, f, (List.length t0 : Nat), 0)).bind fun o =>
 Sum.elim (fun y =>
 some (-1)) (fun y2 =>
 some y2) o)
def zpu : Sig := ⟨85, [.d c5, .fn 64 [.rf (.d c1)]], [], 0, zp3⟩
def zns (x : (List T2) × (List Int)) : Option ((Int)) := zft x.1 x.2
theorem z11m : FnOK Try.prog zpu zns :=
 fn_ok zmt (h := (.two .no (.two (.two .no (.over (loopD z5n.xe z5l (loopC z2i)))) .no))) Try.func85 (z0o [.den (.loop (subC (bodyC Try.f85) [1, 0, 1, 0, 0])) (loopD z5n.xe z5l (loopC z2i))] (by kernel_rfl) ⟨zol, trivial⟩) (by kernel_rfl) zwe (fun x => by kernel_rfl)
def zxr : Env := ⟨[(entQ zpu zns), (entQ zmx zl2)], [], []⟩
theorem zji : EnvsOK Try.prog zxr := ⟨z0p (z0q z11m) (z0p (z0q zs8) (z0x _)), z0t _, z0u _⟩
def zbn : Shp := ⟨42, 2, [(0, .wn 0 c6), (5, .d (.int .i64))], [.row 45 c6, .var 25 (.d c1)]⟩
def z3d : XS := .one (.exit 0) zbn.xe
theorem zi8 : z3d.OK := XS.one_ok (z0c zbn)
def z3a : Shp := ⟨42, 2, [(0, .wn 0 c6), (1, .fn 64 [.pt 1 (.one (.arr 8 .leaf)) []]), (5, .d (.int .i64)), (6, .d (.int .i64))], [.row 45 c6, .var 25 (.d c1)]⟩
abbrev z8t := Int × Int × (List T2) × (List Int)
abbrev zcg := (Int × (List T2) × (List Int))
def z8w (i : Int) (j : Int) (t0 : List T2) (del : List Int) : Option (z8t ⊕ zcg) :=
 z1f (List.length t0) (
 bif ltI j (List.length t0 : Nat) then
 bif inI j (List.length t0) then
 (t0[j.toNat]?).bind fun x =>
 (zbo x del).bind fun r =>
 bif !r then
 bif inI i (List.length t0) then
 (t0[i.toNat]?).bind fun _x =>
 bif Nat.beq (List.length t0) (List.length (t0.set i.toNat x)) then
 some (.inl (W64 (i + 1), W64 (j + 1), t0.set i.toNat x, del))
 else none
 else none
 else
 bif Nat.beq (List.length t0) (List.length t0) then
 some (.inl (i, W64 (j + 1), t0, del))
 else none
 else none
 else
 bif Nat.beq (List.length t0) (List.length t0) then
 some (.inr (i, t0, del))
 else none)
def z1l (s : z8t) : Option (z8t ⊕ zcg) := z8w s.1 s.2.1 s.2.2.1 s.2.2.2
theorem zir : SoundD Try.prog (.loop (subC (bodyC Try.f63) [1, 1, 1, 0, 1, 0, 0])) (loopD z3a.xe z3d (loopC z1l)) :=
 z0w (S := z3a.xe) (X := z3d) zji (h := .no) (z0o [] (by kernel_rfl) trivial) (z0c z3a) zi8 z1l (fun s => by kernel_rfl)
def zjl : Shp := ⟨1, 2, [(0, .ws 0 c6)], [.row 45 c6, .var 25 (.d c1)]⟩
def zlq : XS := .one .ret zjl.xe
theorem zsj : zlq.OK := XS.one_ok (z0c zjl)
def zcy (t0 : List T2) (del : List Int) : Option (((List Bool) × (List T2) × (List Int))) :=
 winK t0 0 (List.length t0) fun w =>
 (zft w del).bind fun r =>
 bif eqI r (-1) then
 some ((List.replicate (List.length t0) true), t0, del)
 else
 bif Nat.beq (List.length t0) (List.length t0) then
 (loopC z1l (r, W64 (r + 1), t0, del)).bind fun o =>
 bif subOk o.1 (List.length o.2.1 : Nat) (List.length o.2.1) then
 bif Nat.ble (addN o.1.toNat ((List.length o.2.1) - o.1.toNat)) (List.length o.2.1) then
 bif subOk 0 o.1 (List.length o.2.1) then
 some (((List.replicate o.1.toNat true), cpyL o.2.1 o.1.toNat ((List.length o.2.1) - o.1.toNat) (List.replicate ((List.length o.2.1) - o.1.toNat) (((0 : Int), (0 : Int)), ((0 : Int), (0 : Int)), ([] : List Int), ((0 : Int), (0 : Int)), List.replicate 8 (0 : Int))), o.2.2))
 else none
 else none
 else none
 else none
def zlh : Sig := ⟨63, [.wn 0 c6, .fn 64 [.pt 1 (.one (.arr 8 .leaf)) []]], [.row 45 c6, .var 25 (.d c1)], 2, zlq⟩
def zkg (x : (List T2) × (List Int)) : Option (((List Bool) × (List T2) × (List Int))) := zcy x.1 x.2
theorem zvq : FnOK Try.prog zlh zkg :=
 fn_ok zji (h := (.two .no (.two .no (.two .no (.two (.two .no (.over (loopD z3a.xe z3d (loopC z1l)))) .no))))) Try.func63 (z0o [.den (.loop (subC (bodyC Try.f63) [1, 1, 1, 0, 1, 0, 0])) (loopD z3a.xe z3d (loopC z1l))] (by kernel_rfl) ⟨zir, trivial⟩) (by kernel_rfl) zsj (fun x => by kernel_rfl)
def z16d : Env := ⟨[(entQ zta zqh)], [], []⟩
theorem z11p : EnvsOK Try.prog z16d := ⟨z0p (z0q zzv) (z0x _), z0t _, z0u _⟩
def zny : Shp := ⟨1, 0, [(0, .d .bool)], []⟩
def zqm : XS := .one .ret zny.xe
theorem zya : zqm.OK := XS.one_ok (z0c zny)
def z9v (v : T3) (t1 : List Int) : Option ((Bool)) :=
 (zm9 v.2.2 t1).bind fun r =>
 some r
def zjp : Sig := ⟨67, [.d c11, .rf (.d c1)], [], 0, zqm⟩
def zhh (x : T3 × (List Int)) : Option ((Bool)) := z9v x.1 x.2
theorem zpi : FnOK Try.prog zjp zhh :=
 fn_ok z11p (h := .no) Try.func67 (z0o [] (by kernel_rfl) trivial) (by kernel_rfl) zya (fun x => by kernel_rfl)
def zzj : Env := ⟨[(entQ zjp zhh)], [], []⟩
theorem zki : EnvsOK Try.prog zzj := ⟨z0p (z0q zpi) (z0x _), z0t _, z0u _⟩
def zds : Shp := ⟨19, 0, [], []⟩
def zdo : Shp := ⟨19, 0, [(4, .d (.int .i64))], []⟩
def z4t : XS := .or (.exit 0) zds.xe (.one .ret zdo.xe)
theorem zm5 : z4t.OK := XS.or_ok (z0c zds) (XS.one_ok (z0c zdo))
def z4w : Shp := ⟨19, 0, [(0, .d c10), (1, .fn 67 [.rf (.d c1)]), (7, .d (.int .i64)), (8, .d (.int .i64))], []⟩
abbrev zan := (List T3) × (List Int) × Int × Int
abbrev zfc := (Unit) ⊕ (Int)
def zat (t0 : List T3) (f : List Int) (t7 : Int) (t8 : Int) : Option (zan ⊕ zfc) :=
 bif ltI t8 t7 then
 (idxI t0 t8).bind fun x =>
 (z9v x f).bind fun r =>
 bif r then
 some (.inr (.inr t8))
 else
 some (.inl (t0, f, t7, W64 (t8 + 1)))
 else
 some (.inr (.inl ()))
def z2e (s : zan) : Option (zan ⊕ zfc) := zat s.1 s.2.1 s.2.2.1 s.2.2.2
theorem znh : SoundD Try.prog (.loop (subC (bodyC Try.f86) [1, 0, 1, 0, 0])) (loopD z4w.xe z4t (loopC z2e)) :=
 z0w (S := z4w.xe) (X := z4t) zki (h := .no) (z0o [] (by kernel_rfl) trivial) (z0c z4w) zm5 z2e (fun s => by kernel_rfl)
def zkj : Shp := ⟨1, 0, [(0, .d (.int .i64))], []⟩
def zml : XS := .one .ret zkj.xe
theorem ztv : zml.OK := XS.one_ok (z0c zkj)
def zdi (t0 : List T3) (f : List Int) : Option ((Int)) :=
 z1f (List.length t0) (
 (loopC z2e (t0, f, (List.length t0 : Nat), 0)).bind fun o =>
 Sum.elim (fun y =>
 some (-1)) (fun y2 =>
 some y2) o)
def zmz : Sig := ⟨86, [.d c10, .fn 67 [.rf (.d c1)]], [], 0, zml⟩
def zlb (x : (List T3) × (List Int)) : Option ((Int)) := zdi x.1 x.2
theorem zx4 : FnOK Try.prog zmz zlb :=
 fn_ok zki (h := (.two .no (.two (.two .no (.over (loopD z4w.xe z4t (loopC z2e)))) .no))) Try.func86 (z0o [.den (.loop (subC (bodyC Try.f86) [1, 0, 1, 0, 0])) (loopD z4w.xe z4t (loopC z2e))] (by kernel_rfl) ⟨znh, trivial⟩) (by kernel_rfl) ztv (fun x => by kernel_rfl)
def zwr : Env := ⟨[(entQ zmz zlb), (entQ zjp zhh)], [], []⟩
theorem zjj : EnvsOK Try.prog zwr := ⟨z0p (z0q zx4) (z0p (z0q zpi) (z0x _)), z0t _, z0u _⟩
def zbl : Shp := ⟨42, 2, [(0, .wn 0 c11), (5, .d (.int .i64))], [.row 85 c11, .var 25 (.d c1)]⟩
def z3g : XS := .one (.exit 0) zbl.xe
theorem zhe : z3g.OK := XS.one_ok (z0c zbl)
def z3e : Shp := ⟨42, 2, [(0, .wn 0 c11), (1, .fn 67 [.pt 1 (.one (.arr 8 .leaf)) []]), (5, .d (.int .i64)), (6, .d (.int .i64))], [.row 85 c11, .var 25 (.d c1)]⟩
abbrev z9a := Int × Int × (List T3) × (List Int)
abbrev zcb := (Int × (List T3) × (List Int))
def z8x (i : Int) (j : Int) (t0 : List T3) (del : List Int) : Option (z9a ⊕ zcb) :=
 z1f (List.length t0) (
 bif ltI j (List.length t0 : Nat) then
 bif inI j (List.length t0) then
 (t0[j.toNat]?).bind fun x =>
 (z9v x del).bind fun r =>
 bif !r then
 bif inI i (List.length t0) then
 (t0[i.toNat]?).bind fun _x =>
 bif Nat.beq (List.length t0) (List.length (t0.set i.toNat x)) then
 some (.inl (W64 (i + 1), W64 (j + 1), t0.set i.toNat x, del))
 else none
 else none
 else
 bif Nat.beq (List.length t0) (List.length t0) then
 some (.inl (i, W64 (j + 1), t0, del))
 else none
 else none
 else
 bif Nat.beq (List.length t0) (List.length t0) then
 some (.inr (i, t0, del))
 else none)
def z1j (s : z9a) : Option (z9a ⊕ zcb) := z8x s.1 s.2.1 s.2.2.1 s.2.2.2
theorem ziv : SoundD Try.prog (.loop (subC (bodyC Try.f66) [1, 1, 1, 0, 1, 0, 0])) (loopD z3e.xe z3g (loopC z1j)) :=
 z0w (S := z3e.xe) (X := z3g) zjj (h := .no) (z0o [] (by kernel_rfl) trivial) (z0c z3e) zhe z1j (fun s => by kernel_rfl)
def zj8 : Shp := ⟨1, 2, [(0, .ws 0 c11)], [.row 85 c11, .var 25 (.d c1)]⟩
def zm3 : XS := .one .ret zj8.xe
theorem zt8 : zm3.OK := XS.one_ok (z0c zj8)
def zcz (t0 : List T3) (del : List Int) : Option (((List Bool) × (List T3) × (List Int))) :=
 winK t0 0 (List.length t0) fun w =>
 (zdi w del).bind fun r =>
 bif eqI r (-1) then
 some ((List.replicate (List.length t0) true), t0, del)
 else
 bif Nat.beq (List.length t0) (List.length t0) then
 (loopC z1j (r, W64 (r + 1), t0, del)).bind fun o =>
 bif subOk o.1 (List.length o.2.1 : Nat) (List.length o.2.1) then
 bif Nat.ble (addN o.1.toNat ((List.length o.2.1) - o.1.toNat)) (List.length o.2.1) then
 bif subOk 0 o.1 (List.length o.2.1) then
 some (((List.replicate o.1.toNat true), cpyL o.2.1 o.1.toNat ((List.length o.2.1) - o.1.toNat) (List.replicate ((List.length o.2.1) - o.1.toNat) (((0 : Int), (0 : Int)), ([] : List Int), List.replicate 8 (0 : Int))), o.2.2))
 else none
 else none
 else none
 else none
def zll : Sig := ⟨66, [.wn 0 c11, .fn 67 [.pt 1 (.one (.arr 8 .leaf)) []]], [.row 85 c11, .var 25 (.d c1)], 2, zm3⟩
def zjx (x : (List T3) × (List Int)) : Option (((List Bool) × (List T3) × (List Int))) := zcz x.1 x.2
theorem zvm : FnOK Try.prog zll zjx :=
 fn_ok zjj (h := (.two .no (.two .no (.two .no (.two (.two .no (.over (loopD z3e.xe z3g (loopC z1j)))) .no))))) Try.func66 (z0o [.den (.loop (subC (bodyC Try.f66) [1, 1, 1, 0, 1, 0, 0])) (loopD z3e.xe z3g (loopC z1j))] (by kernel_rfl) ⟨ziv, trivial⟩) (by kernel_rfl) zt8 (fun x => by kernel_rfl)
def z1ao : Env := ⟨[], [(entP zl6 zjq), (entP zll zjx)], []⟩
theorem z16i : EnvsOK Try.prog z1ao := ⟨z0x _, zdu (zis zqx) (zdu (zis zvm) (z0t _)), z0u _⟩
def zqq : Shp := ⟨1, 0, [(0, .d c10)], []⟩
def zvc : XS := .one .ret zqq.xe
theorem z14n : zvc.OK := XS.one_ok (z0c zqq)
def zkx (l : List T3) (base : List Int) : Option (((List T3))) :=
 (zf0 l).bind fun r =>
 bif Nat.beq (List.length r) (List.length r) then
 (zcz r base).bind fun r2 =>
 winK r2.2.1 0 (lenW r2.1) fun w =>
 some w
 else none
def zv1 : Sig := ⟨37, [.d c10, .d c1], [], 0, zvc⟩
def zs9 (x : (List T3) × (List Int)) : Option (((List T3))) := zkx x.1 x.2
theorem z18i : FnOK Try.prog zv1 zs9 :=
 fn_ok z16i (h := .no) Try.func37 (z0o [] (by kernel_rfl) trivial) (by kernel_rfl) z14n (fun x => by kernel_rfl)
def z1bg : Env := ⟨[], [(entP zt2 zqu), (entP zl6 zjq)], []⟩
theorem zqo : EnvsOK Try.prog z1bg := ⟨z0x _, zdu (zis z16g) (zdu (zis zqx) (z0t _)), z0u _⟩
def zd2 : Shp := ⟨31, 0, [(2, .pt 0 r15 []), (3, .pt 1 r15 [])], [.var 33 (.ag [.d c1, .wn 2 c14, .wn 3 c6, .d c16, .d (.arr 8 .bool)]), .var 33 (.ag [.d c1, .wn 4 c14, .wn 5 c6, .d c16, .d (.arr 8 .bool)]), .row 49 c14, .row 45 c6, .row 49 c14, .row 45 c6]⟩
def z4h : XS := .one (.exit 0) zd2.xe
theorem zl8 : z4h.OK := XS.one_ok (z0c zd2)
def z4i : Shp := ⟨31, 0, [(2, .pt 0 r15 []), (3, .pt 1 r15 []), (13, .d c18), (14, .d (.int .i64)), (15, .d (.int .i64))], [.var 33 (.ag [.d c1, .wn 2 c14, .wn 3 c6, .d c16, .d (.arr 8 .bool)]), .var 33 (.ag [.d c1, .wn 4 c14, .wn 5 c6, .d c16, .d (.arr 8 .bool)]), .row 49 c14, .row 45 c6, .row 49 c14, .row 45 c6]⟩
abbrev za9 := (List T4) × Int × Int × (List Int) × (List Int) × (List Bool) × (List Int) × (List Int) × (List Bool) × (List T4) × (List T2) × (List T4) × (List T2)
abbrev zen := ((List Int) × (List Int) × (List Bool) × (List Int) × (List Int) × (List Bool) × (List T4) × (List T2) × (List T4) × (List T2))
def zaa (t13 : List T4) (t14 : Int) (t15 : Int) (t2 : List Int) (t22 : List Int) (t23 : List Bool) (out : List Int) (out2 : List Int) (out3 : List Bool) (t24 : List T4) (t25 : List T2) (out4 : List T4) (out5 : List T2) : Option (za9 ⊕ zen) :=
 bif ltI t15 t14 then
 (idxI t13 t15).bind fun x =>
 (zf0 x.2.2.2.2.2).bind fun r =>
 winK r 0 (List.length r) fun w =>
 bif Nat.beq (List.length out4) (List.length out4) then
 appG (List.length out4) (List.length ([(x.1, x.2.1, x.2.2.1, x.2.2.2.1, x.2.2.2.2.1, w)] : List T4)) 112 fun _ =>
 bif Nat.beq (List.length t24) (List.length t24) then
 bif Nat.beq (List.length t25) (List.length t25) then
 bif Nat.beq (List.length (out4 ++ ([(x.1, x.2.1, x.2.2.1, x.2.2.2.1, x.2.2.2.2.1, w)] : List T4))) (List.length (out4 ++ ([(x.1, x.2.1, x.2.2.1, x.2.2.2.1, x.2.2.2.2.1, w)] : List T4))) then
 bif Nat.beq (List.length out5) (List.length out5) then
 some (.inl (t13, t14, W64 (t15 + 1), t2, t22, t23, out, out2, out3, t24, t25, out4 ++ ([(x.1, x.2.1, x.2.2.1, x.2.2.2.1, x.2.2.2.2.1, w)] : List T4), out5))
 else none
 else none
 else none
 else none
 else none
 else
 bif Nat.beq (List.length t24) (List.length t24) then
 bif Nat.beq (List.length t25) (List.length t25) then
 bif Nat.beq (List.length out4) (List.length out4) then
 bif Nat.beq (List.length out5) (List.length out5) then
 some (.inr (t2, t22, t23, out, out2, out3, t24, t25, out4, out5))
 else none
 else none
 else none
 else none
def z2j (s : za9) : Option (za9 ⊕ zen) := zaa s.1 s.2.1 s.2.2.1 s.2.2.2.1 s.2.2.2.2.1 s.2.2.2.2.2.1 s.2.2.2.2.2.2.1 s.2.2.2.2.2.2.2.1 s.2.2.2.2.2.2.2.2.1 s.2.2.2.2.2.2.2.2.2.1 s.2.2.2.2.2.2.2.2.2.2.1 s.2.2.2.2.2.2.2.2.2.2.2.1 s.2.2.2.2.2.2.2.2.2.2.2.2
theorem zm4 : SoundD Try.prog (.loop (subC (bodyC Try.f35) [1, 1, 1, 1, 0, 1, 0, 0])) (loopD z4i.xe z4h (loopC z2j)) :=
 z0w (S := z4i.xe) (X := z4h) zqo (h := (.two .no (.two .no (.two (.two .no (.two (.reg [4] []) .no)) .no)))) (z0o [] (by kernel_rfl) trivial) (z0c z4i) zl8 z2j (fun s => by kernel_rfl)
def zr2 : Shp := ⟨1, 0, [(0, .ag [.d c1, .wn 0 c14, .wn 1 c6, .d c16, .d (.arr 8 .bool)])], [.row 49 c14, .row 45 c6]⟩
def zva : XS := .one .ret zr2.xe
theorem z13h : zva.OK := XS.one_ok (z0c zr2)
def zkt (t0 : T5) : Option (((List Int) × (List Int) × (List Bool) × (List T4) × (List T2))) :=
 (zil t0.2.2.1).bind fun r =>
 z1f (List.length t0.2.1) (
 bif Nat.beq 0 (List.length ([] : List T4)) then
 bif Nat.beq 0 (List.length ([] : List T2)) then
 bif Nat.beq 0 (List.length ([] : List T4)) then
 bif Nat.beq (List.length r) (List.length r) then
 (loopC z2j (t0.2.1, (List.length t0.2.1 : Nat), 0, List.replicate 8 (0 : Int), List.replicate 8 (0 : Int), List.replicate 8 false, t0.1, t0.2.2.2.1, t0.2.2.2.2, ([] : List T4), ([] : List T2), ([] : List T4), r)).bind fun o =>
 bif Nat.beq (List.length o.2.2.2.2.2.2.2.2.1) (List.length o.2.2.2.2.2.2.2.2.1) then
 bif Nat.beq (List.length o.2.2.2.2.2.2.2.2.2) (List.length o.2.2.2.2.2.2.2.2.2) then
 some (o.2.2.2.1, o.2.2.2.2.1, o.2.2.2.2.2.1, o.2.2.2.2.2.2.2.2.1, o.2.2.2.2.2.2.2.2.2)
 else none
 else none
 else none
 else none
 else none
 else none)
def zug : Sig := ⟨35, [.d c17], [], 0, zva⟩
def ztc (x : T5) : Option (((List Int) × (List Int) × (List Bool) × (List T4) × (List T2))) := zkt x
theorem z19e : FnOK Try.prog zug ztc :=
 fn_ok zqo (h := (.two .no (.two (.reg [1000002] []) (.two .no (.two .no (.two (.two .no (.over (loopD z4i.xe z4h (loopC z2j)))) .no)))))) Try.func35 (z0o [.den (.loop (subC (bodyC Try.f35) [1, 1, 1, 1, 0, 1, 0, 0])) (loopD z4i.xe z4h (loopC z2j))] (by kernel_rfl) ⟨zm4, trivial⟩) (by kernel_rfl) z13h (fun x => by kernel_rfl)
def z19h : Env := ⟨[], [], []⟩
theorem z12g : EnvsOK Try.prog z19h := ⟨z0x _, z0t _, z0u _⟩
def zpn : Shp := ⟨1, 1, [(0, .wn 1 c6)], [.row 45 c6, .row 45 c6]⟩
def zst : XS := .one .ret zpn.xe
theorem z11r : zst.OK := XS.one_ok (z0c zpn)
def zit (t0 : List T2) : Option (((List T2) × (List T2))) :=
 nilK (List.length t0) fun q =>
 bif q then
 bif Nat.beq 0 (List.length ([] : List T2)) then
 some (t0, ([] : List T2))
 else none
 else
 winK t0 0 (List.length t0) fun w =>
 appG (List.length ([] : List T2)) (List.length w) 96 fun _ =>
 bif Nat.beq (List.length w) (List.length w) then
 some (t0, w)
 else none
def ztp : Sig := ⟨61, [.wn 0 c6], [.row 45 c6], 1, zst⟩
def zql (x : (List T2)) : Option (((List T2) × (List T2))) := zit x
theorem z16k : FnOK Try.prog ztp zql :=
 fn_ok z12g (h := (.two .no (.two .no (.two (.reg [2] []) .no)))) Try.func61 (z0o [] (by kernel_rfl) trivial) (by kernel_rfl) z11r (fun x => by kernel_rfl)
def z1bc : Env := ⟨[], [(entP ztp zql), (entP zlh zkg)], []⟩
theorem z16l : EnvsOK Try.prog z1bc := ⟨z0x _, zdu (zis z16k) (zdu (zis zvq) (z0t _)), z0u _⟩
def zqn : Shp := ⟨1, 1, [(0, .ws 1 c6)], [.row 45 c6, .row 45 c6]⟩
def zvi : XS := .one .ret zqn.xe
theorem z13d : zvi.OK := XS.one_ok (z0c zqn)
def zkv (base : List Int) (l : List T2) : Option (((List Bool) × (List T2) × (List T2))) :=
 bif Nat.beq (List.length l) (List.length l) then
 (zit l).bind fun r =>
 bif Nat.beq (List.length r.2) (List.length r.2) then
 (zcy r.2 base).bind fun r2 =>
 some ((List.replicate (lenW r2.1) true), r.1, r2.2.1)
 else none
 else none
def zuy : Sig := ⟨36, [.wn 0 c6, .d c1], [.row 45 c6], 1, zvi⟩
def zt5 (x : (List Int) × (List T2)) : Option (((List Bool) × (List T2) × (List T2))) := zkv x.1 x.2
theorem z18v : FnOK Try.prog zuy zt5 :=
 fn_ok z16l (h := .no) Try.func36 (z0o [] (by kernel_rfl) trivial) (by kernel_rfl) z13d (fun x => by kernel_rfl)
def z1n2 : Env := ⟨[], [], []⟩
theorem z1i5 : EnvsOK Try.prog z1n2 := ⟨z0x _, z0t _, z0u _⟩
def z17l : Shp := ⟨1, 0, [(0, .d (.int .u32))], []⟩
def z1e4 : XS := .one .ret z17l.xe
theorem z1h8 : z1e4.OK := XS.one_ok (z0c z17l)
def z15r (v : List Int) (rep : Int) : Option ((Int)) :=
 bif ltI rep 1 then
 some 0
 else
 bif ltI 8 rep then
 some 0
 else
 bif inI (W64 (rep - 1)) 8 then
 (v[(W64 (rep - 1)).toNat]?).bind fun x =>
 some x
 else none
def z1ee : Sig := ⟨87, [.d c1, .d (.int .i64)], [], 0, z1e4⟩
def z1bt (x : (List Int) × Int) : Option ((Int)) := z15r x.1 x.2
theorem z1kc : FnOK Try.prog z1ee z1bt :=
 fn_ok z1i5 (h := .no) Try.func87 (z0o [] (by kernel_rfl) trivial) (by kernel_rfl) z1h8 (fun x => by kernel_rfl)
def z1lh : Env := ⟨[(entQ z1ee z1bt)], [], []⟩
theorem z1iq : EnvsOK Try.prog z1lh := ⟨z0p (z0q z1kc) (z0x _), z0t _, z0u _⟩
def z16x : Shp := ⟨1, 0, [(0, .d .bool)], []⟩
def z1ek : XS := .one .ret z16x.xe
theorem z1gq : z1ek.OK := XS.one_ok (z0c z16x)
def zs2 (v : List Int) (id : T0) : Option ((Bool)) :=
 bif leI 1 id.2 then
 (z15r v id.1).bind fun r =>
 some (leI id.2 r)
 else
 some false
def z12x : Sig := ⟨69, [.d c1, .d c0], [], 0, z1ek⟩
def zym (x : (List Int) × T0) : Option ((Bool)) := zs2 x.1 x.2
theorem z1bk : FnOK Try.prog z12x zym :=
 fn_ok z1iq (h := .no) Try.func69 (z0o [] (by kernel_rfl) trivial) (by kernel_rfl) z1gq (fun x => by kernel_rfl)
def z1ne : Env := ⟨[], [], []⟩
theorem z16u : EnvsOK Try.prog z1ne := ⟨z0x _, z0t _, z0u _⟩
def znr : Shp := ⟨18, 0, [], []⟩
def znz : Shp := ⟨18, 0, [(4, .d .bool)], []⟩
def zc0 : XS := .or (.exit 0) znr.xe (.one .ret znz.xe)
theorem zzc : zc0.OK := XS.or_ok (z0c znr) (XS.one_ok (z0c znz))
def zby : Shp := ⟨18, 0, [(3, .pt 0 (.one (.arr 8 .leaf)) []), (7, .d c1), (8, .d (.int .i64))], [.var 25 (.d c1)]⟩
abbrev zjo := (List Int) × Int × (List Int)
abbrev zr0 := (Unit) ⊕ (Bool)
def zjr (t7 : List Int) (t8 : Int) (b : List Int) : Option (zjo ⊕ zr0) :=
 bif ltI t8 8 then
 (idxI t7 t8).bind fun x =>
 bif inI t8 8 then
 (b[t8.toNat]?).bind fun x2 =>
 bif ltI x2 x then
 some (.inr (.inr false))
 else
 some (.inl (t7, W64 (t8 + 1), b))
 else none
 else
 some (.inr (.inl ()))
def z5t (s : zjo) : Option (zjo ⊕ zr0) := zjr s.1 s.2.1 s.2.2
theorem z11k : SoundD Try.prog (.loop (subC (bodyC Try.f51) [1, 0, 1, 0, 0])) (loopD zby.xe zc0 (loopC z5t)) :=
 z0w (S := zby.xe) (X := zc0) z16u (h := .no) (z0o [] (by kernel_rfl) trivial) (z0c zby) zzc z5t (fun s => by kernel_rfl)
def z17w : Shp := ⟨1, 0, [(0, .d .bool)], []⟩
def z1e9 : XS := .one .ret z17w.xe
theorem z1fh : z1e9.OK := XS.one_ok (z0c z17w)
def zxu (a : List Int) (b : List Int) : Option ((Bool)) :=
 (loopC z5t (a, 0, b)).bind fun o =>
 Sum.elim (fun y =>
 some true) (fun y2 =>
 some y2) o
def z12k : Sig := ⟨51, [.d c1, .d c1], [], 0, z1e9⟩
def zyy (x : (List Int) × (List Int)) : Option ((Bool)) := zxu x.1 x.2
theorem z1a2 : FnOK Try.prog z12k zyy :=
 fn_ok z16u (h := (.two .no (.two (.two .no (.over (loopD zby.xe zc0 (loopC z5t)))) .no))) Try.func51 (z0o [.den (.loop (subC (bodyC Try.f51) [1, 0, 1, 0, 0])) (loopD zby.xe zc0 (loopC z5t))] (by kernel_rfl) ⟨z11k, trivial⟩) (by kernel_rfl) z1fh (fun x => by kernel_rfl)
def z1cc : Env := ⟨[], [], []⟩
theorem z19b : EnvsOK Try.prog z1cc := ⟨z0x _, z0t _, z0u _⟩
def zsq : Shp := ⟨1, 0, [(0, .d .bool)], []⟩
def zwi : XS := .one .ret zsq.xe
theorem z16b : zwi.OK := XS.one_ok (z0c zsq)
def zms (v : T3) : Option ((Bool)) :=
 some (eqU c1 v.2.2 (List.replicate 8 (0 : Int)))
def zos : Sig := ⟨46, [.d c11], [], 0, zwi⟩
def zmo (x : T3) : Option ((Bool)) := zms x
theorem zus : FnOK Try.prog zos zmo :=
 fn_ok z19b (h := .no) Try.func46 (z0o [] (by kernel_rfl) trivial) (by kernel_rfl) z16b (fun x => by kernel_rfl)
def z1b9 : Env := ⟨[(entQ zos zmo)], [], []⟩
theorem zqt : EnvsOK Try.prog z1b9 := ⟨z0p (z0q zus) (z0x _), z0t _, z0u _⟩
def zfi : Shp := ⟨20, 0, [(3, .wn 0 c11)], [.row 85 c11]⟩
def z6d : XS := .one (.exit 0) zfi.xe
theorem zoi : z6d.OK := XS.one_ok (z0c zfi)
def z6c : Shp := ⟨20, 0, [(3, .wn 0 c11), (6, .d c10), (7, .d (.int .i64)), (8, .d (.int .i64))], [.row 85 c11]⟩
abbrev zc4 := (List T3) × Int × Int × (List T3)
abbrev zh3 := ((List T3))
def zc5 (t6 : List T3) (t7 : Int) (t8 : Int) (out : List T3) : Option (zc4 ⊕ zh3) :=
 bif ltI t8 t7 then
 (idxI t6 t8).bind fun x =>
 (zms x).bind fun r =>
 bif r then
 bif Nat.beq (List.length out) (List.length out) then
 appG (List.length out) (List.length ([x] : List T3)) 64 fun _ =>
 bif Nat.beq (List.length (out ++ ([x] : List T3))) (List.length (out ++ ([x] : List T3))) then
 some (.inl (t6, t7, W64 (t8 + 1), out ++ ([x] : List T3)))
 else none
 else none
 else
 bif Nat.beq (List.length out) (List.length out) then
 some (.inl (t6, t7, W64 (t8 + 1), out))
 else none
 else
 bif Nat.beq (List.length out) (List.length out) then
 some (.inr out)
 else none
def z2z (s : zc4) : Option (zc4 ⊕ zh3) := zc5 s.1 s.2.1 s.2.2.1 s.2.2.2
theorem zq3 : SoundD Try.prog (.loop (subC (bodyC Try.f89) [1, 1, 0, 1, 0, 0])) (loopD z6c.xe z6d (loopC z2z)) :=
 z0w (S := z6c.xe) (X := z6d) zqt (h := .no) (z0o [] (by kernel_rfl) trivial) (z0c z6c) zoi z2z (fun s => by kernel_rfl)
def zr5 : Shp := ⟨1, 0, [(0, .d c10)], []⟩
def zvd : XS := .one .ret zr5.xe
theorem z13q : zvd.OK := XS.one_ok (z0c zr5)
def zks (l : List T3) : Option (((List T3))) :=
 z1f (List.length l) (
 bif Nat.beq 0 (List.length ([] : List T3)) then
 (loopC z2z (l, (List.length l : Nat), 0, ([] : List T3))).bind fun o =>
 winK o 0 (List.length o) fun w =>
 some w
 else none)
def zuq : Sig := ⟨89, [.d c10], [], 0, zvd⟩
def zto (x : (List T3)) : Option (((List T3))) := zks x
theorem z19v : FnOK Try.prog zuq zto :=
 fn_ok zqt (h := (.two .no (.two .no (.two (.two .no (.over (loopD z6c.xe z6d (loopC z2z)))) .no)))) Try.func89 (z0o [.den (.loop (subC (bodyC Try.f89) [1, 1, 0, 1, 0, 0])) (loopD z6c.xe z6d (loopC z2z))] (by kernel_rfl) ⟨zq3, trivial⟩) (by kernel_rfl) z13q (fun x => by kernel_rfl)
def z14k : Env := ⟨[(entQ z12x zym)], [], []⟩
theorem zz2 : EnvsOK Try.prog z14k := ⟨z0p (z0q z1bk) (z0x _), z0t _, z0u _⟩
def zni : Shp := ⟨1, 0, [(0, .d .bool)], []⟩
def zpp : XS := .one .ret zni.xe
theorem zwo : zpp.OK := XS.one_ok (z0c zni)
def zfp (v : T3) (t1 : List Int) : Option ((Bool)) :=
 (zs2 t1 v.1).bind fun r =>
 some (!r)
def zpk : Sig := ⟨90, [.d c11, .rf (.d c1)], [], 0, zpp⟩
def znw (x : T3 × (List Int)) : Option ((Bool)) := zfp x.1 x.2
theorem z11i : FnOK Try.prog zpk znw :=
 fn_ok zz2 (h := .no) Try.func90 (z0o [] (by kernel_rfl) trivial) (by kernel_rfl) zwo (fun x => by kernel_rfl)
def zyo : Env := ⟨[(entQ zpk znw)], [], []⟩
theorem zkn : EnvsOK Try.prog zyo := ⟨z0p (z0q z11i) (z0x _), z0t _, z0u _⟩
def ze0 : Shp := ⟨19, 0, [], []⟩
def zdy : Shp := ⟨19, 0, [(4, .d (.int .i64))], []⟩
def z4x : XS := .or (.exit 0) ze0.xe (.one .ret zdy.xe)
theorem zm8 : z4x.OK := XS.or_ok (z0c ze0) (XS.one_ok (z0c zdy))
def z4n : Shp := ⟨19, 0, [(0, .d c10), (1, .fn 90 [.rf (.d c1)]), (7, .d (.int .i64)), (8, .d (.int .i64))], []⟩
abbrev zav := (List T3) × (List Int) × Int × Int
abbrev zfb := (Unit) ⊕ (Int)
def zap (t0 : List T3) (f : List Int) (t7 : Int) (t8 : Int) : Option (zav ⊕ zfb) :=
 bif ltI t8 t7 then
 (idxI t0 t8).bind fun x =>
 (zfp x f).bind fun r =>
 bif r then
 some (.inr (.inr t8))
 else
 some (.inl (t0, f, t7, W64 (t8 + 1)))
 else
 some (.inr (.inl ()))
def z2a (s : zav) : Option (zav ⊕ zfb) := zap s.1 s.2.1 s.2.2.1 s.2.2.2
theorem znl : SoundD Try.prog (.loop (subC (bodyC Try.f86) [1, 0, 1, 0, 0])) (loopD z4n.xe z4x (loopC z2a)) :=
 z0w (S := z4n.xe) (X := z4x) zkn (h := .no) (z0o [] (by kernel_rfl) trivial) (z0c z4n) zm8 z2a (fun s => by kernel_rfl)
def zjw : Shp := ⟨1, 0, [(0, .d (.int .i64))], []⟩
def zmg : XS := .one .ret zjw.xe
theorem zu5 : zmg.OK := XS.one_ok (z0c zjw)
def zdp (t0 : List T3) (f : List Int) : Option ((Int)) :=
 z1f (List.length t0) (
 (loopC z2a (t0, f, (List.length t0 : Nat), 0)).bind fun o =>
 Sum.elim (fun y =>
 some (-1)) (fun y2 =>
 some y2) o)
def zne : Sig := ⟨86, [.d c10, .fn 90 [.rf (.d c1)]], [], 0, zmg⟩
def zla (x : (List T3) × (List Int)) : Option ((Int)) := zdp x.1 x.2
theorem zwb : FnOK Try.prog zne zla :=
 fn_ok zkn (h := (.two .no (.two (.two .no (.over (loopD z4n.xe z4x (loopC z2a)))) .no))) Try.func86 (z0o [.den (.loop (subC (bodyC Try.f86) [1, 0, 1, 0, 0])) (loopD z4n.xe z4x (loopC z2a))] (by kernel_rfl) ⟨znl, trivial⟩) (by kernel_rfl) zu5 (fun x => by kernel_rfl)
def zwl : Env := ⟨[(entQ zne zla)], [], []⟩
theorem zu0 : EnvsOK Try.prog zwl := ⟨z0p (z0q zwb) (z0x _), z0t _, z0u _⟩
def zj7 : Shp := ⟨1, 0, [(0, .d .bool)], []⟩
def zlg : XS := .one .ret zj7.xe
theorem zti : zlg.OK := XS.one_ok (z0c zj7)
def zgv (t0 : List T3) (f : List Int) : Option ((Bool)) :=
 (zdp t0 f).bind fun r =>
 some (leI 0 r)
def zlv : Sig := ⟨88, [.d c10, .fn 90 [.rf (.d c1)]], [], 0, zlg⟩
def zkd (x : (List T3) × (List Int)) : Option ((Bool)) := zgv x.1 x.2
theorem zvs : FnOK Try.prog zlv zkd :=
 fn_ok zu0 (h := .no) Try.func88 (z0o [] (by kernel_rfl) trivial) (by kernel_rfl) zti (fun x => by kernel_rfl)
def z19x : Env := ⟨[(entQ zuq zto), (entQ zlv zkd)], [], []⟩
theorem z14y : EnvsOK Try.prog z19x := ⟨z0p (z0q z19v) (z0p (z0q zvs) (z0x _)), z0t _, z0u _⟩
def zpz : Shp := ⟨1, 0, [(0, .d .bool)], []⟩
def ztl : XS := .one .ret zpz.xe
theorem z11h : ztl.OK := XS.one_ok (z0c zpz)
def zix (l : List T3) (seen : List Int) : Option ((Bool)) :=
 (zks l).bind fun r =>
 (zgv r seen).bind fun r2 =>
 some r2
def ztb : Sig := ⟨70, [.d c10, .d c1], [], 0, ztl⟩
def zr4 (x : (List T3) × (List Int)) : Option ((Bool)) := zix x.1 x.2
theorem z15y : FnOK Try.prog ztb zr4 :=
 fn_ok z14y (h := .no) Try.func70 (z0o [] (by kernel_rfl) trivial) (by kernel_rfl) z11h (fun x => by kernel_rfl)
def z19r : Env := ⟨[], [], []⟩
theorem z14l : EnvsOK Try.prog z19r := ⟨z0x _, z0t _, z0u _⟩
def zp7 : Shp := ⟨1, 0, [(0, .d .bool)], []⟩
def ztk : XS := .one .ret zp7.xe
theorem z11g : ztk.OK := XS.one_ok (z0c zp7)
def zj5 (x : T2) (t1 : T4) : Option ((Bool)) :=
 bif eqU c0 x.2.2.2.1 t1.1 then
 some true
 else
 some (eqU c0 x.2.1 t1.1)
def zsd : Sig := ⟨72, [.d c6, .rf (.d c14)], [], 0, ztk⟩
def zqy (x : T2 × T4) : Option ((Bool)) := zj5 x.1 x.2
theorem z16a : FnOK Try.prog zsd zqy :=
 fn_ok z14l (h := .no) Try.func72 (z0o [] (by kernel_rfl) trivial) (by kernel_rfl) z11g (fun x => by kernel_rfl)
def zyq : Env := ⟨[(entQ zsd zqy)], [], []⟩
theorem zk1 : EnvsOK Try.prog zyq := ⟨z0p (z0q z16a) (z0x _), z0t _, z0u _⟩
def zdx : Shp := ⟨19, 0, [], []⟩
def zdz : Shp := ⟨19, 0, [(4, .d (.int .i64))], []⟩
def z4y : XS := .or (.exit 0) zdx.xe (.one .ret zdz.xe)
theorem zm7 : z4y.OK := XS.or_ok (z0c zdx) (XS.one_ok (z0c zdz))
def z4q : Shp := ⟨19, 0, [(0, .d c5), (1, .fn 72 [.rf (.d c14)]), (7, .d (.int .i64)), (8, .d (.int .i64))], []⟩
abbrev zaq := (List T2) × T4 × Int × Int
abbrev zf7 := (Unit) ⊕ (Int)
def zao (t0 : List T2) (f : T4) (t7 : Int) (t8 : Int) : Option (zaq ⊕ zf7) :=
 bif ltI t8 t7 then
 (idxI t0 t8).bind fun x =>
 (zj5 x f).bind fun r =>
 bif r then
 some (.inr (.inr t8))
 else
 some (.inl (t0, f, t7, W64 (t8 + 1)))
 else
 some (.inr (.inl ()))
def z2f (s : zaq) : Option (zaq ⊕ zf7) := zao s.1 s.2.1 s.2.2.1 s.2.2.2
theorem zmf : SoundD Try.prog (.loop (subC (bodyC Try.f85) [1, 0, 1, 0, 0])) (loopD z4q.xe z4y (loopC z2f)) :=
 z0w (S := z4q.xe) (X := z4y) zk1 (h := .no) (z0o [] (by kernel_rfl) trivial) (z0c z4q) zm7 z2f (fun s => by kernel_rfl)
def zke : Shp := ⟨1, 0, [(0, .d (.int .i64))], []⟩
def znj : XS := .one .ret zke.xe
theorem zty : znj.OK := XS.one_ok (z0c zke)
def zdm (t0 : List T2) (f : T4) : Option ((Int)) :=
 z1f (List.length t0) (
 (loopC z2f (t0, f, (List.length t0 : Nat), 0)).bind fun o =>
 Sum.elim (fun y =>
 some (-1)) (fun y2 =>
 some y2) o)
def znk : Sig := ⟨85, [.d c5, .fn 72 [.rf (.d c14)]], [], 0, znj⟩
def zlz (x : (List T2) × T4) : Option ((Int)) := zdm x.1 x.2
theorem zy2 : FnOK Try.prog znk zlz :=
 fn_ok zk1 (h := (.two .no (.two (.two .no (.over (loopD z4q.xe z4y (loopC z2f)))) .no))) Try.func85 (z0o [.den (.loop (subC (bodyC Try.f85) [1, 0, 1, 0, 0])) (loopD z4q.xe z4y (loopC z2f))] (by kernel_rfl) ⟨zmf, trivial⟩) (by kernel_rfl) zty (fun x => by kernel_rfl)
def ztw : Env := ⟨[(entQ znk zlz)], [], []⟩
theorem zrg : EnvsOK Try.prog ztw := ⟨z0p (z0q zy2) (z0x _), z0t _, z0u _⟩
def zh9 : Shp := ⟨1, 0, [(0, .d .bool)], []⟩
def zje : XS := .one .ret zh9.xe
theorem zq5 : zje.OK := XS.one_ok (z0c zh9)
def zbm (t0 : List T2) (f : T4) : Option ((Bool)) :=
 (zdm t0 f).bind fun r =>
 some (leI 0 r)
def zjc : Sig := ⟨71, [.d c5, .fn 72 [.rf (.d c14)]], [], 0, zje⟩
def zhf (x : (List T2) × T4) : Option ((Bool)) := zbm x.1 x.2
theorem ztd : FnOK Try.prog zjc zhf :=
 fn_ok zrg (h := .no) Try.func71 (z0o [] (by kernel_rfl) trivial) (by kernel_rfl) zq5 (fun x => by kernel_rfl)
def z1dd : Env := ⟨[(entQ z12x zym), (entQ z12k zyy), (entQ ztb zr4), (entQ zjc zhf)], [], []⟩
theorem zsc : EnvsOK Try.prog z1dd := ⟨z0p (z0q z1bk) (z0p (z0q z1a2) (z0p (z0q z15y) (z0p (z0q ztd) (z0x _)))), z0t _, z0u _⟩
def zgh : Shp := ⟨45, 0, [(3, .pt 0 r15 []), (4, .pt 1 r13 [])], [.var 33 (.d c17), .var 49 (.d c14)]⟩
def zg8 : Shp := ⟨45, 0, [(6, .d .bool)], []⟩
def z6n : XS := .or (.exit 0) zgh.xe (.one .ret zg8.xe)
theorem zpj : z6n.OK := XS.or_ok (z0c zgh) (XS.one_ok (z0c zg8))
def z6r : Shp := ⟨45, 0, [(3, .pt 0 r15 []), (4, .pt 1 r13 []), (5, .pt 2 (.one (.arr 8 .leaf)) []), (29, .d c10), (30, .d (.int .i64)), (31, .d (.int .i64))], [.var 33 (.d c17), .var 49 (.d c14), .var 25 (.d c1)]⟩
abbrev zcs := (List T3) × Int × Int × T5 × T4 × (List Int)
abbrev zi5 := (T5 × T4) ⊕ (Bool)
def zcj (t29 : List T3) (t30 : Int) (t31 : Int) (t3 : T5) (o : T4) (base : List Int) : Option (zcs ⊕ zi5) :=
 bif ltI t31 t30 then
 (idxI t29 t31).bind fun x =>
 (zs2 base x.1).bind fun r =>
 bif !r then
 some (.inr (.inr true))
 else
 some (.inl (t29, t30, W64 (t31 + 1), t3, o, base))
 else
 some (.inr (.inl (t3, o)))
def z2n (s : zcs) : Option (zcs ⊕ zi5) := zcj s.1 s.2.1 s.2.2.1 s.2.2.2.1 s.2.2.2.2.1 s.2.2.2.2.2
theorem zq7 : SoundD Try.prog (.loop (subC (bodyC Try.f40) [1, 1, 0, 1, 0, 0])) (loopD z6r.xe z6n (loopC z2n)) :=
 z0w (S := z6r.xe) (X := z6n) zsc (h := .no) (z0o [] (by kernel_rfl) trivial) (z0c z6r) zpj z2n (fun s => by kernel_rfl)
def zsu : Shp := ⟨1, 0, [(0, .d .bool)], []⟩
def zxy : XS := .one .ret zsu.xe
theorem z15z : zxy.OK := XS.one_ok (z0c zsu)
def zhp (t0 : T5) (o : T4) (base : List Int) : Option ((Bool)) :=
 (zs2 base o.1).bind fun r =>
 bif !r then
 some true
 else
 (zxu o.2.2.2.2.1 base).bind fun r2 =>
 bif !r2 then
 some true
 else
 (zix o.2.2.2.2.2 o.2.2.2.2.1).bind fun r3 =>
 bif r3 then
 some true
 else
 z1f (List.length o.2.2.2.2.2) (
 (loopC z2n (o.2.2.2.2.2, (List.length o.2.2.2.2.2 : Nat), 0, t0, o, base)).bind fun o2 =>
 Sum.elim (fun y =>
 (zbm y.1.2.2.1 y.2).bind fun r4 =>
 some r4) (fun y2 =>
 some y2) o2)
def zo8 : Sig := ⟨40, [.d c17, .d c14, .d c1], [], 0, zxy⟩
def zmh (x : T5 × T4 × (List Int)) : Option ((Bool)) := zhp x.1 x.2.1 x.2.2
theorem zul : FnOK Try.prog zo8 zmh :=
 fn_ok zsc (h := (.two .no (.two .no (.two (.two .no (.over (loopD z6r.xe z6n (loopC z2n)))) .no)))) Try.func40 (z0o [.den (.loop (subC (bodyC Try.f40) [1, 1, 0, 1, 0, 0])) (loopD z6r.xe z6n (loopC z2n))] (by kernel_rfl) ⟨zq7, trivial⟩) (by kernel_rfl) z15z (fun x => by kernel_rfl)
def z16f : Env := ⟨[(entQ zo8 zmh)], [], []⟩
theorem z11o : EnvsOK Try.prog z16f := ⟨z0p (z0q zul) (z0x _), z0t _, z0u _⟩
def znv : Shp := ⟨1, 0, [(0, .d .bool)], []⟩
def zqz : XS := .one .ret znv.xe
theorem zzd : zqz.OK := XS.one_ok (z0c znv)
def ze3 (o : T4) (t1 : List Int) (t12 : List T4) (t13 : List T2) (t14 : List Int) (t15 : List Bool) (t2 : List Int) : Option ((Bool)) :=
 (zhp (t1, t12, t13, t14, t15) o t2).bind fun r =>
 some (!r)
def zjs : Sig := ⟨39, [.d c14, .rf (.ag [.d c1, .d c18, .d c5, .d c16, .d (.arr 8 .bool)]), .rf (.d c1)], [], 0, zqz⟩
def zig (x : T4 × (List Int) × (List T4) × (List T2) × (List Int) × (List Bool) × (List Int)) : Option ((Bool)) := ze3 x.1 x.2.1 x.2.2.1 x.2.2.2.1 x.2.2.2.2.1 x.2.2.2.2.2.1 x.2.2.2.2.2.2
theorem zpw : FnOK Try.prog zjs zig :=
 fn_ok z11o (h := .no) Try.func39 (z0o [] (by kernel_rfl) trivial) (by kernel_rfl) zzd (fun x => by kernel_rfl)
def zy7 : Env := ⟨[(entQ zjs zig)], [], []⟩
theorem zjy : EnvsOK Try.prog zy7 := ⟨z0p (z0q zpw) (z0x _), z0t _, z0u _⟩
def ze6 : Shp := ⟨19, 0, [], []⟩
def ze4 : Shp := ⟨19, 0, [(4, .d (.int .i64))], []⟩
def z4s : XS := .or (.exit 0) ze6.xe (.one .ret ze4.xe)
theorem zm6 : z4s.OK := XS.or_ok (z0c ze6) (XS.one_ok (z0c ze4))
def z4r : Shp := ⟨19, 0, [(0, .d c18), (1, .fn 39 [.rf (.ag [.d c1, .d c18, .d c5, .d c16, .d (.arr 8 .bool)]), .rf (.d c1)]), (7, .d (.int .i64)), (8, .d (.int .i64))], []⟩
abbrev zau := (List T4) × (List Int) × (List T4) × (List T2) × (List Int) × (List Bool) × (List Int) × Int × Int
abbrev zer := (Unit) ⊕ (Int)
def zas (t0 : List T4) (f : List Int) (f2 : List T4) (f3 : List T2) (f4 : List Int) (f5 : List Bool) (f6 : List Int) (t7 : Int) (t8 : Int) : Option (zau ⊕ zer) :=
 bif ltI t8 t7 then
 (idxI t0 t8).bind fun x =>
 (ze3 x f f2 f3 f4 f5 f6).bind fun r =>
 bif r then
 some (.inr (.inr t8))
 else
 some (.inl (t0, f, f2, f3, f4, f5, f6, t7, W64 (t8 + 1)))
 else
 some (.inr (.inl ()))
def z2c (s : zau) : Option (zau ⊕ zer) := zas s.1 s.2.1 s.2.2.1 s.2.2.2.1 s.2.2.2.2.1 s.2.2.2.2.2.1 s.2.2.2.2.2.2.1 s.2.2.2.2.2.2.2.1 s.2.2.2.2.2.2.2.2
theorem zmd : SoundD Try.prog (.loop (subC (bodyC Try.f68) [1, 0, 1, 0, 0])) (loopD z4r.xe z4s (loopC z2c)) :=
 z0w (S := z4r.xe) (X := z4s) zjy (h := .no) (z0o [] (by kernel_rfl) trivial) (z0c z4r) zm6 z2c (fun s => by kernel_rfl)
def zk4 : Shp := ⟨1, 0, [(0, .d (.int .i64))], []⟩
def zn5 : XS := .one .ret zk4.xe
theorem zu2 : zn5.OK := XS.one_ok (z0c zk4)
def ze2 (t0 : List T4) (f : List Int) (f2 : List T4) (f3 : List T2) (f4 : List Int) (f5 : List Bool) (f6 : List Int) : Option ((Int)) :=
 z1f (List.length t0) (
 (loopC z2c (t0, f, f2, f3, f4, f5, f6, (List.length t0 : Nat), 0)).bind fun o =>
 Sum.elim (fun y =>
 some (-1)) (fun y2 =>
 some y2) o)
def znf : Sig := ⟨68, [.d c18, .fn 39 [.rf (.ag [.d c1, .d c18, .d c5, .d c16, .d (.arr 8 .bool)]), .rf (.d c1)]], [], 0, zn5⟩
def zld (x : (List T4) × (List Int) × (List T4) × (List T2) × (List Int) × (List Bool) × (List Int)) : Option ((Int)) := ze2 x.1 x.2.1 x.2.2.1 x.2.2.2.1 x.2.2.2.2.1 x.2.2.2.2.2.1 x.2.2.2.2.2.2
theorem zwj : FnOK Try.prog znf zld :=
 fn_ok zjy (h := (.two .no (.two (.two .no (.over (loopD z4r.xe z4s (loopC z2c)))) .no))) Try.func68 (z0o [.den (.loop (subC (bodyC Try.f68) [1, 0, 1, 0, 0])) (loopD z4r.xe z4s (loopC z2c))] (by kernel_rfl) ⟨zmd, trivial⟩) (by kernel_rfl) zu2 (fun x => by kernel_rfl)
def zy1 : Env := ⟨[(entQ znf zld), (entQ zjs zig)], [], []⟩
theorem zjn : EnvsOK Try.prog zy1 := ⟨z0p (z0q zwj) (z0p (z0q zpw) (z0x _)), z0t _, z0u _⟩
def zbi : Shp := ⟨42, 3, [(0, .wn 0 c14), (5, .d (.int .i64))], [.row 49 c14, .var 33 (.ag [.d c1, .wn 0 c14, .ws 3 c6, .d c16, .d (.arr 8 .bool)]), .var 25 (.d c1), .row 45 c6]⟩
def z3c : XS := .one (.exit 0) zbi.xe
theorem zi7 : z3c.OK := XS.one_ok (z0c zbi)
def z3b : Shp := ⟨42, 3, [(0, .wn 0 c14), (1, .fn 39 [.pt 1 r15 [], .pt 2 (.one (.arr 8 .leaf)) []]), (5, .d (.int .i64)), (6, .d (.int .i64))], [.row 49 c14, .var 33 (.ag [.d c1, .wn 0 c14, .ws 3 c6, .d c16, .d (.arr 8 .bool)]), .var 25 (.d c1), .row 45 c6]⟩
abbrev z8m := Int × Int × (List T4) × (List Int) × (List Bool) × (List Int) × (List Bool) × (List Int) × (List T2)
abbrev zcd := (Int × (List T4) × (List Int) × (List Bool) × (List Int) × (List Bool) × (List Int) × (List T2))
def z8j (i : Int) (j : Int) (t0 : List T4) (del : List Int) (del2 : List Bool) (del3 : List Int) (del4 : List Bool) (del5 : List Int) (del6 : List T2) : Option (z8m ⊕ zcd) :=
 z1f (List.length t0) (
 bif ltI j (List.length t0 : Nat) then
 bif inI j (List.length t0) then
 (t0[j.toNat]?).bind fun x =>
 winK t0 0 (List.length t0) fun w =>
 winK del6 0 (lenW del2) fun w2 =>
 (ze3 x del w w2 del3 del4 del5).bind fun r =>
 bif !r then
 bif inI i (List.length t0) then
 (t0[i.toNat]?).bind fun _x =>
 bif Nat.beq (List.length t0) (List.length (t0.set i.toNat x)) then
 bif Nat.beq (List.length t0) (List.length (t0.set i.toNat x)) then
 some (.inl (W64 (i + 1), W64 (j + 1), t0.set i.toNat x, del, (List.replicate (lenW del2) true), del3, del4, del5, del6))
 else none
 else none
 else none
 else
 bif Nat.beq (List.length t0) (List.length t0) then
 bif Nat.beq (List.length t0) (List.length t0) then
 some (.inl (i, W64 (j + 1), t0, del, (List.replicate (lenW del2) true), del3, del4, del5, del6))
 else none
 else none
 else none
 else
 bif Nat.beq (List.length t0) (List.length t0) then
 bif Nat.beq (List.length t0) (List.length t0) then
 some (.inr (i, t0, del, (List.replicate (lenW del2) true), del3, del4, del5, del6))
 else none
 else none)
def z1m (s : z8m) : Option (z8m ⊕ zcd) := z8j s.1 s.2.1 s.2.2.1 s.2.2.2.1 s.2.2.2.2.1 s.2.2.2.2.2.1 s.2.2.2.2.2.2.1 s.2.2.2.2.2.2.2.1 s.2.2.2.2.2.2.2.2
theorem zin : SoundD Try.prog (.loop (subC (bodyC Try.f38) [1, 1, 1, 0, 1, 0, 0])) (loopD z3b.xe z3c (loopC z1m)) :=
 z0w (S := z3b.xe) (X := z3c) zjn (h := .no) (z0o [] (by kernel_rfl) trivial) (z0c z3b) zi7 z1m (fun s => by kernel_rfl)
def zjg : Shp := ⟨1, 3, [(0, .ws 0 c14)], [.row 49 c14, .var 33 (.ag [.d c1, .wn 0 c14, .ws 3 c6, .d c16, .d (.arr 8 .bool)]), .var 25 (.d c1), .row 45 c6]⟩
def zln : XS := .one .ret zjg.xe
theorem zsk : zln.OK := XS.one_ok (z0c zjg)
def zcx (t0 : List T4) (del : List Int) (del2 : List Bool) (del3 : List Int) (del4 : List Bool) (del5 : List Int) (del6 : List T2) : Option (((List Bool) × (List T4) × (List Int) × (List Bool) × (List Int) × (List Bool) × (List Int) × (List T2))) :=
 winK t0 0 (List.length t0) fun w =>
 winK t0 0 (List.length t0) fun w2 =>
 winK del6 0 (lenW del2) fun w3 =>
 (ze2 w del w2 w3 del3 del4 del5).bind fun r =>
 bif eqI r (-1) then
 bif Nat.beq (List.length t0) (List.length t0) then
 some ((List.replicate (List.length t0) true), t0, del, (List.replicate (lenW del2) true), del3, del4, del5, del6)
 else none
 else
 bif Nat.beq (List.length t0) (List.length t0) then
 bif Nat.beq (List.length t0) (List.length t0) then
 (loopC z1m (r, W64 (r + 1), t0, del, (List.replicate (lenW del2) true), del3, del4, del5, del6)).bind fun o =>
 bif subOk o.1 (List.length o.2.1 : Nat) (List.length o.2.1) then
 bif Nat.ble (addN o.1.toNat ((List.length o.2.1) - o.1.toNat)) (List.length o.2.1) then
 bif subOk 0 o.1 (List.length o.2.1) then
 bif Nat.beq (List.length o.2.1) (List.length (cpyL o.2.1 o.1.toNat ((List.length o.2.1) - o.1.toNat) (List.replicate ((List.length o.2.1) - o.1.toNat) (((0 : Int), (0 : Int)), false, ((0 : Int), (0 : Int)), ([] : List Int), List.replicate 8 (0 : Int), ([] : List T3))))) then
 some (((List.replicate o.1.toNat true), cpyL o.2.1 o.1.toNat ((List.length o.2.1) - o.1.toNat) (List.replicate ((List.length o.2.1) - o.1.toNat) (((0 : Int), (0 : Int)), false, ((0 : Int), (0 : Int)), ([] : List Int), List.replicate 8 (0 : Int), ([] : List T3))), o.2.2.1, (List.replicate (lenW o.2.2.2.1) true), o.2.2.2.2.1, o.2.2.2.2.2.1, o.2.2.2.2.2.2.1, o.2.2.2.2.2.2.2))
 else none
 else none
 else none
 else none
 else none
 else none
def zlp : Sig := ⟨38, [.wn 0 c14, .fn 39 [.pt 1 r15 [], .pt 2 (.one (.arr 8 .leaf)) []]], [.row 49 c14, .var 33 (.ag [.d c1, .wn 0 c14, .ws 3 c6, .d c16, .d (.arr 8 .bool)]), .var 25 (.d c1), .row 45 c6], 3, zln⟩
def zk3 (x : (List T4) × (List Int) × (List Bool) × (List Int) × (List Bool) × (List Int) × (List T2)) : Option (((List Bool) × (List T4) × (List Int) × (List Bool) × (List Int) × (List Bool) × (List Int) × (List T2))) := zcx x.1 x.2.1 x.2.2.1 x.2.2.2.1 x.2.2.2.2.1 x.2.2.2.2.2.1 x.2.2.2.2.2.2
theorem zvw : FnOK Try.prog zlp zk3 :=
 fn_ok zjn (h := (.two .no (.two .no (.two .no (.two (.two .no (.over (loopD z3b.xe z3c (loopC z1m)))) .no))))) Try.func38 (z0o [.den (.loop (subC (bodyC Try.f38) [1, 1, 1, 0, 1, 0, 0])) (loopD z3b.xe z3c (loopC z1m))] (by kernel_rfl) ⟨zin, trivial⟩) (by kernel_rfl) zsk (fun x => by kernel_rfl)
def z1be : Env := ⟨[(entQ zv1 zs9)], [(entP zug ztc), (entP zuy zt5), (entP zlp zk3)], []⟩
theorem zr1 : EnvsOK Try.prog z1be := ⟨z0p (z0q z18i) (z0x _), zdu (zis z19e) (zdu (zis z18v) (zdu (zis zvw) (z0t _))), z0u _⟩
def zem : Shp := ⟨41, 0, [(3, .pt 0 (.one (.arr 8 .leaf)) []), (4, .pt 1 r15 []), (5, .pt 2 r15 [])], [.var 25 (.d c1), .var 33 (.ag [.d c1, .wn 3 c14, .wn 4 c6, .d c16, .d (.arr 8 .bool)]), .var 33 (.ag [.d c1, .wn 5 c14, .ws 6 c6, .d c16, .d (.arr 8 .bool)]), .row 49 c14, .row 45 c6, .row 49 c14, .row 45 c6]⟩
def z5e : XS := .one (.exit 0) zem.xe
theorem zme : z5e.OK := XS.one_ok (z0c zem)
def z5d : Shp := ⟨41, 0, [(3, .pt 0 (.one (.arr 8 .leaf)) []), (4, .pt 1 r15 []), (5, .pt 2 r15 []), (17, .d (.int .i64)), (18, .d (.int .i64))], [.var 25 (.d c1), .var 33 (.ag [.d c1, .wn 3 c14, .wn 4 c6, .d c16, .d (.arr 8 .bool)]), .var 33 (.ag [.d c1, .wn 5 c14, .ws 6 c6, .d c16, .d (.arr 8 .bool)]), .row 49 c14, .row 45 c6, .row 49 c14, .row 45 c6]⟩
abbrev zb2 := Int × Int × (List Int) × (List Int) × (List Int) × (List Bool) × (List Int) × (List Bool) × (List Int) × (List Bool) × (List T4) × (List T2) × (List T4) × (List T2)
abbrev zfl := ((List Int) × (List Int) × (List Int) × (List Bool) × (List Int) × (List Bool) × (List Int) × (List Bool) × (List T4) × (List T2) × (List T4) × (List T2))
def zbf (t17 : Int) (t18 : Int) (base : List Int) (t4 : List Int) (t42 : List Int) (t43 : List Bool) (out : List Int) (out2 : List Bool) (out3 : List Int) (out4 : List Bool) (t44 : List T4) (t45 : List T2) (out5 : List T4) (out6 : List T2) : Option (zb2 ⊕ zfl) :=
 bif ltI t18 t17 then
 bif inI t18 (List.length out5) then
 (out5[t18.toNat]?).bind fun x =>
 (zkx x.2.2.2.2.2 base).bind fun r =>
 (out5[t18.toNat]?).bind fun x2 =>
 bif Nat.beq (List.length t44) (List.length t44) then
 bif Nat.beq (List.length t45) (List.length t45) then
 bif Nat.beq (List.length out5) (List.length (out5.set t18.toNat (x2.1, x2.2.1, x2.2.2.1, x2.2.2.2.1, x2.2.2.2.2.1, r))) then
 some (.inl (t17, W64 (t18 + 1), base, t4, t42, t43, out, (List.replicate (lenW out2) true), out3, out4, t44, t45, out5.set t18.toNat (x2.1, x2.2.1, x2.2.2.1, x2.2.2.2.1, x2.2.2.2.2.1, r), out6))
 else none
 else none
 else none
 else none
 else
 bif Nat.beq (List.length t44) (List.length t44) then
 bif Nat.beq (List.length t45) (List.length t45) then
 bif Nat.beq (List.length out5) (List.length out5) then
 some (.inr (base, t4, t42, t43, out, (List.replicate (lenW out2) true), out3, out4, t44, t45, out5, out6))
 else none
 else none
 else none
def z2p (s : zb2) : Option (zb2 ⊕ zfl) := zbf s.1 s.2.1 s.2.2.1 s.2.2.2.1 s.2.2.2.2.1 s.2.2.2.2.2.1 s.2.2.2.2.2.2.1 s.2.2.2.2.2.2.2.1 s.2.2.2.2.2.2.2.2.1 s.2.2.2.2.2.2.2.2.2.1 s.2.2.2.2.2.2.2.2.2.2.1 s.2.2.2.2.2.2.2.2.2.2.2.1 s.2.2.2.2.2.2.2.2.2.2.2.2.1 s.2.2.2.2.2.2.2.2.2.2.2.2.2
theorem znm : SoundD Try.prog (.loop (subC (bodyC Try.f12) [1, 1, 1, 0, 1, 0, 0])) (loopD z5d.xe z5e (loopC z2p)) :=
 z0w (S := z5d.xe) (X := z5e) zr1 (h := .no) (z0o [] (by kernel_rfl) trivial) (z0c z5d) zme z2p (fun s => by kernel_rfl)
def zqw : Shp := ⟨1, 0, [(0, .d c17)], []⟩
def zu9 : XS := .one .ret zqw.xe
theorem z12u : zu9.OK := XS.one_ok (z0c zqw)
def zge (t0 : T5) (base : List Int) : Option ((T5)) :=
 (zkt t0).bind fun r =>
 bif Nat.beq (List.length r.2.2.2.2) (List.length r.2.2.2.2) then
 (zkv base r.2.2.2.2).bind fun r2 =>
 z1f (List.length r.2.2.2.1) (
 bif Nat.beq 0 (List.length ([] : List T4)) then
 bif Nat.beq 0 (List.length ([] : List T2)) then
 bif Nat.beq (List.length r.2.2.2.1) (List.length r.2.2.2.1) then
 (loopC z2p ((List.length r.2.2.2.1 : Nat), 0, base, List.replicate 8 (0 : Int), List.replicate 8 (0 : Int), List.replicate 8 false, r.1, (List.replicate (lenW r2.1) true), r.2.1, r.2.2.1, ([] : List T4), ([] : List T2), r.2.2.2.1, r2.2.2)).bind fun o =>
 bif Nat.beq (List.length o.2.2.2.2.2.2.2.2.2.2.1) (List.length o.2.2.2.2.2.2.2.2.2.2.1) then
 bif Nat.beq (List.length o.2.2.2.2.2.2.2.2.2.2.1) (List.length o.2.2.2.2.2.2.2.2.2.2.1) then
 (zcx o.2.2.2.2.2.2.2.2.2.2.1 o.2.2.2.2.1 (List.replicate (lenW o.2.2.2.2.2.1) true) o.2.2.2.2.2.2.1 o.2.2.2.2.2.2.2.1 o.1 o.2.2.2.2.2.2.2.2.2.2.2).bind fun r3 =>
 winK r3.2.1 0 (lenW r3.1) fun w =>
 winK r3.2.2.2.2.2.2.2 0 (lenW r3.2.2.2.1) fun w2 =>
 some (r3.2.2.1, w, w2, r3.2.2.2.2.1, r3.2.2.2.2.2.1)
 else none
 else none
 else none
 else none
 else none)
 else none
def zv9 : Sig := ⟨12, [.d c17, .d c1], [], 0, zu9⟩
def zsw (x : T5 × (List Int)) : Option ((T5)) := zge x.1 x.2
theorem z19q : FnOK Try.prog zv9 zsw :=
 fn_ok zr1 (h := (.two .no (.two .no (.two .no (.two (.two .no (.over (loopD z5d.xe z5e (loopC z2p)))) .no))))) Try.func12 (z0o [.den (.loop (subC (bodyC Try.f12) [1, 1, 1, 0, 1, 0, 0])) (loopD z5d.xe z5e (loopC z2p))] (by kernel_rfl) ⟨znm, trivial⟩) (by kernel_rfl) z12u (fun x => by kernel_rfl)
def z1fa : Env := ⟨[], [], []⟩
theorem z1bw : EnvsOK Try.prog z1fa := ⟨z0x _, z0t _, z0u _⟩
def zuv : Shp := ⟨1, 0, [(0, .d .bool)], []⟩
def z10u : XS := .one .ret zuv.xe
theorem z19c : z10u.OK := XS.one_ok (z0c zuv)
def zp1 (x : T2) : Option ((Bool)) :=
 some (eqU c1 x.2.2.2.2 (List.replicate 8 (0 : Int)))
def zzn : Sig := ⟨45, [.d c6], [], 0, z10u⟩
def zxl (x : T2) : Option ((Bool)) := zp1 x
theorem z1cz : FnOK Try.prog zzn zxl :=
 fn_ok z1bw (h := .no) Try.func45 (z0o [] (by kernel_rfl) trivial) (by kernel_rfl) z19c (fun x => by kernel_rfl)
def z1hm : Env := ⟨[(entQ zzn zxl), (entQ zos zmo), (entQ zo8 zmh)], [], []⟩
theorem ziq : EnvsOK Try.prog z1hm := ⟨z0p (z0q z1cz) (z0p (z0q zus) (z0p (z0q zul) (z0x _))), z0t _, z0u _⟩
def zhx : Shp := ⟨53, 0, [(1, .pt 0 r15 []), (3, .d (.int .i64))], [.var 33 (.d c17)]⟩
def z8k : XS := .one (.exit 0) zhx.xe
theorem zrj : z8k.OK := XS.one_ok (z0c zhx)
def z8r : Shp := ⟨53, 0, [(1, .pt 0 r15 []), (3, .d (.int .i64)), (11, .d c5), (12, .d (.int .i64)), (13, .d (.int .i64))], [.var 33 (.d c17)]⟩
abbrev ze8 := Int × (List T2) × Int × Int × T5
abbrev zjv := (Int × T5)
def zef (n : Int) (t11 : List T2) (t12 : Int) (t13 : Int) (t1 : T5) : Option (ze8 ⊕ zjv) :=
 bif ltI t13 t12 then
 (idxI t11 t13).bind fun x =>
 (zp1 x).bind fun r =>
 bif !r then
 some (.inl (W64 (n + 1), t11, t12, W64 (t13 + 1), t1))
 else
 some (.inl (n, t11, t12, W64 (t13 + 1), t1))
 else
 some (.inr (n, t1))
def z3j (s : ze8) : Option (ze8 ⊕ zjv) := zef s.1 s.2.1 s.2.2.1 s.2.2.2.1 s.2.2.2.2
theorem zt6 : SoundD Try.prog (.loop (subC (bodyC Try.f15) [1, 1, 0, 1, 0, 0])) (loopD z8r.xe z8k (loopC z3j)) :=
 z0w (S := z8r.xe) (X := z8k) ziq (h := .no) (z0o [] (by kernel_rfl) trivial) (z0c z8r) zrj z3j (fun s => by kernel_rfl)
def z8v : Shp := ⟨53, 0, [(1, .pt 0 r15 []), (3, .d (.int .i64)), (7, .pt 1 r13 []), (24, .d c18), (25, .d (.int .i64)), (26, .d (.int .i64))], [.var 33 (.d c17), .var 49 (.d c14)]⟩
def z2d : XS := .one (.exit 4) z8v.xe
theorem zdv : z2d.OK := XS.one_ok (z0c z8v)
def z2b : Shp := ⟨53, 0, [(1, .pt 0 r15 []), (3, .d (.int .i64)), (7, .pt 1 r13 []), (24, .d c18), (25, .d (.int .i64)), (26, .d (.int .i64)), (31, .d c10), (32, .d (.int .i64)), (33, .d (.int .i64))], [.var 33 (.d c17), .var 49 (.d c14)]⟩
abbrev z4u := Int × (List T4) × Int × Int × (List T3) × Int × Int × T5 × T4
abbrev z9m := (Int × (List T4) × Int × Int × T5 × T4)
def z4p (n : Int) (t24 : List T4) (t25 : Int) (t26 : Int) (t31 : List T3) (t32 : Int) (t33 : Int) (t1 : T5) (o : T4) : Option (z4u ⊕ z9m) :=
 bif ltI t33 t32 then
 (idxI t31 t33).bind fun x =>
 (zms x).bind fun r =>
 bif !r then
 some (.inl (W64 (n + 1), t24, t25, t26, t31, t32, W64 (t33 + 1), t1, o))
 else
 some (.inl (n, t24, t25, t26, t31, t32, W64 (t33 + 1), t1, o))
 else
 some (.inr (n, t24, t25, t26, t1, o))
def z1b (s : z4u) : Option (z4u ⊕ z9m) := z4p s.1 s.2.1 s.2.2.1 s.2.2.2.1 s.2.2.2.2.1 s.2.2.2.2.2.1 s.2.2.2.2.2.2.1 s.2.2.2.2.2.2.2.1 s.2.2.2.2.2.2.2.2
theorem zei : SoundD Try.prog (.loop (subC (bodyC Try.f15) [1, 1, 1, 0, 1, 0, 0, 1, 1, 0, 0, 1, 0, 1, 0, 0])) (loopD z2b.xe z2d (loopC z1b)) :=
 z0w (S := z2b.xe) (X := z2d) ziq (h := .no) (z0o [] (by kernel_rfl) trivial) (z0c z2b) zdv z1b (fun s => by kernel_rfl)
def zgj : Shp := ⟨53, 0, [(3, .d (.int .i64))], []⟩
def z6x : XS := .one (.exit 2) zgj.xe
theorem zpc : z6x.OK := XS.one_ok (z0c zgj)
def z6o : Shp := ⟨53, 0, [(1, .pt 0 r15 []), (3, .d (.int .i64)), (24, .d c18), (25, .d (.int .i64)), (26, .d (.int .i64))], [.var 33 (.d c17)]⟩
abbrev zcv := Int × (List T4) × Int × Int × T5
abbrev zif := (Int)
def zcn (n : Int) (t24 : List T4) (t25 : Int) (t26 : Int) (t1 : T5) : Option (zcv ⊕ zif) :=
 bif ltI t26 t25 then
 (idxI t24 t26).bind fun x =>
 z1f (List.length x.2.2.2.2.2) (
 (loopC z1b (n, t24, t25, t26, x.2.2.2.2.2, (List.length x.2.2.2.2.2 : Nat), 0, t1, x)).bind fun o =>
 (zhp o.2.2.2.2.1 o.2.2.2.2.2 o.2.2.2.2.1.1).bind fun r =>
 bif !r then
 some (.inl (W64 (o.1 + 1), o.2.1, o.2.2.1, W64 (o.2.2.2.1 + 1), o.2.2.2.2.1))
 else
 some (.inl (o.1, o.2.1, o.2.2.1, W64 (o.2.2.2.1 + 1), o.2.2.2.2.1)))
 else
 some (.inr n)
def z3m (s : zcv) : Option (zcv ⊕ zif) := zcn s.1 s.2.1 s.2.2.1 s.2.2.2.1 s.2.2.2.2
theorem zqa : SoundD Try.prog (.loop (subC (bodyC Try.f15) [1, 1, 1, 0, 1, 0, 0])) (loopD z6o.xe z6x (loopC z3m)) :=
 z0w (S := z6o.xe) (X := z6x) ziq (h := (.two .no (.two .no (.two (.two .no (.two (.two .no (.over (loopD z2b.xe z2d (loopC z1b)))) .no)) .no)))) (z0o [.den (.loop (subC (bodyC Try.f15) [1, 1, 1, 0, 1, 0, 0, 1, 1, 0, 0, 1, 0, 1, 0, 0])) (loopD z2b.xe z2d (loopC z1b))] (by kernel_rfl) ⟨zei, trivial⟩) (z0c z6o) zpc z3m (fun s => by kernel_rfl)
def zwa : Shp := ⟨1, 0, [(0, .d (.int .i64))], []⟩
def z12b : XS := .one .ret zwa.xe
theorem z1bj : z12b.OK := XS.one_ok (z0c zwa)
def zrm (t0 : T5) : Option ((Int)) :=
 z1f (List.length t0.2.2.1) (
 (loopC z3j (0, t0.2.2.1, (List.length t0.2.2.1 : Nat), 0, t0)).bind fun o =>
 z1f (List.length o.2.2.1) (
 (loopC z3m (o.1, o.2.2.1, (List.length o.2.2.1 : Nat), 0, o.2)).bind fun o2 =>
 some o2))
def z14o : Sig := ⟨15, [.d c17], [], 0, z12b⟩
def zzx (x : T5) : Option ((Int)) := zrm x
theorem z1f1 : FnOK Try.prog z14o zzx :=
 fn_ok ziq (h := (.two .no (.two .no (.two (.two .no (.over (loopD z8r.xe z8k (loopC z3j)))) (.two (.two .no (.over (loopD z6o.xe z6x (loopC z3m)))) .no))))) Try.func15 (z0o [.den (.loop (subC (bodyC Try.f15) [1, 1, 0, 1, 0, 0])) (loopD z8r.xe z8k (loopC z3j)), .den (.loop (subC (bodyC Try.f15) [1, 1, 1, 0, 1, 0, 0])) (loopD z6o.xe z6x (loopC z3m))] (by kernel_rfl) ⟨zt6, zqa, trivial⟩) (by kernel_rfl) z1bj (fun x => by kernel_rfl)
def z1fc : Env := ⟨[(entQ z10y zy0), (entQ zv9 zsw), (entQ z14o zzx)], [], []⟩
theorem z1ap : EnvsOK Try.prog z1fc := ⟨z0p (z0q z1d5) (z0p (z0q z19q) (z0p (z0q z1f1) (z0x _))), z0t _, z0u _⟩
def zvf : Shp := ⟨1, 0, [(0, .d .bool)], []⟩
def z10z : XS := .one .ret zvf.xe
theorem z1a0 : z10z.OK := XS.one_ok (z0c zvf)
def zoy  : Option ((Bool)) :=
 (zkf (([((1, 1), List.replicate 8 (0 : Int), 1, (0, 0), (0, 0), ([97] : List Int), [], [], 0, [], 0), ((1, 2), (List.replicate 8 (0 : Int)).set 0 1, 6, (1, 1), (0, 0), [], ([(1, 1)] : List T0), [], 0, [], 0)] : List T1))).bind fun r =>
 (zge r ((List.replicate 8 (0 : Int)).set 0 1)).bind fun r2 =>
 (zge r ((List.replicate 8 (0 : Int)).set 0 2)).bind fun r3 =>
 z1f (List.length r2.2.2.1) (
 bif eqI (List.length r2.2.2.1 : Nat) 1 then
 z1f (List.length r2.2.1) (
 bif eqI (List.length r2.2.1 : Nat) 1 then
 z1f (List.length r3.2.2.1) (
 z1f (List.length r3.2.1) (
 bif eqI (W64 ((List.length r3.2.2.1 : Nat) + (List.length r3.2.1 : Nat))) 0 then
 bif eqU c1 r3.1 r.1 then
 (zrm r).bind fun r4 =>
 some (eqI r4 1)
 else
 some false
 else
 some false))
 else
 some false)
 else
 some false)
def z11d : Sig := ⟨8, [], [], 0, z10z⟩
def zxe (x : Unit) : Option ((Bool)) := zoy 
theorem z1ci : FnOK Try.prog z11d zxe :=
 fn_ok z1ap (h := .no) Try.func8 (z0o [] (by kernel_rfl) trivial) (by kernel_rfl) z1a0 (fun x => by kernel_rfl)
def z1f3 : Env := ⟨[], [], []⟩
theorem zud : EnvsOK Try.prog z1f3 := ⟨z0x _, z0t _, z0u _⟩
def zck : Shp := ⟨41, 0, [(2, .pt 0 (.one (.arr 8 .leaf)) []), (3, .pt 1 (.one (.arr 8 .leaf)) []), (5, .d .bool), (6, .d .bool), (7, .d (.int .i64))], [.var 25 (.d c1), .var 25 (.d c1)]⟩
def z9u : XS := .one .normal zck.xe
theorem zk2 : z9u.OK := XS.one_ok (z0c zck)
def zh1 : Shp := ⟨41, 0, [(5, .d .bool), (6, .d .bool)], []⟩
def z7t : XS := .one (.exit 0) zh1.xe
theorem zqe : z7t.OK := XS.one_ok (z0c zh1)
def z7v : Shp := ⟨41, 0, [(2, .pt 0 (.one (.arr 8 .leaf)) []), (3, .pt 1 (.one (.arr 8 .leaf)) []), (5, .d .bool), (6, .d .bool), (7, .d (.int .i64))], [.var 25 (.d c1), .var 25 (.d c1)]⟩
abbrev zdb := Bool × Bool × Int × (List Int) × (List Int)
abbrev zj9 := (Bool × Bool)
def zd6 (less : Bool) (more : Bool) (i : Int) (a : List Int) (b : List Int) : Option (zdb ⊕ zj9) :=
 bif ltI i 8 then
 (show Option ((Bool × Bool × Int × (List Int) × (List Int))) from
 bif less then
 some (true, more, i, a, b)
 else
 bif inI i 8 then
 (a[i.toNat]?).bind fun x =>
 bif inI i 8 then
 (b[i.toNat]?).bind fun x2 =>
 some (ltI x x2, more, i, a, b)
 else none
 else none).bind fun j =>
 bif j.2.1 then
 some (.inl (j.1, true, W64 (j.2.2.1 + 1), j.2.2.2.1, j.2.2.2.2))
 else
 bif inI j.2.2.1 8 then
 (j.2.2.2.1[j.2.2.1.toNat]?).bind fun x3 =>
 bif inI j.2.2.1 8 then
 (j.2.2.2.2[j.2.2.1.toNat]?).bind fun x4 =>
 some (.inl (j.1, ltI x4 x3, W64 (j.2.2.1 + 1), j.2.2.2.1, j.2.2.2.2))
 else none
 else none
 else
 some (.inr (less, more))
def z3v (s : zdb) : Option (zdb ⊕ zj9) := zd6 s.1 s.2.1 s.2.2.1 s.2.2.2.1 s.2.2.2.2
theorem zrc : SoundD Try.prog (.loop (subC (bodyC Try.f52) [1, 1, 0, 1, 0, 0])) (loopD z7v.xe z7t (loopC z3v)) :=
 z0w (S := z7v.xe) (X := z7t) zud (h := (.two .no (.two (.join (fun _ => z9u) .no .no) .no))) (z0o [.xs (fun _ => z9u)] (by kernel_rfl) ⟨(z5r zk2), trivial⟩) (z0c z7v) zqe z3v (fun s => by kernel_rfl)
def zi4 : Shp := ⟨41, 0, [(5, .d .bool), (6, .d .bool), (32, .d .bool)], []⟩
def zek : XS := .one .normal zi4.xe
theorem zrb : zek.OK := XS.one_ok (z0c zi4)
def zuz : Shp := ⟨1, 0, [(0, .d (.int .i64))], []⟩
def zzr : XS := .one .ret zuz.xe
theorem z19i : zzr.OK := XS.one_ok (z0c zuz)
def zvu (a : List Int) (b : List Int) : Option ((Int)) :=
 (loopC z3v (false, false, 0, a, b)).bind fun o =>
 (show Option ((Bool × Bool × Bool)) from
 bif o.1 then
 some (o.1, o.2, o.2)
 else
 some (o.1, o.2, false)).bind fun j =>
 bif j.2.2 then
 some 2
 else
 bif j.1 then
 some (-1)
 else
 bif j.2.1 then
 some 1
 else
 some 0
def z10w : Sig := ⟨52, [.d c1, .d c1], [], 0, zzr⟩
def zwn (x : (List Int) × (List Int)) : Option ((Int)) := zvu x.1 x.2
theorem z1db : FnOK Try.prog z10w zwn :=
 fn_ok zud (h := (.two .no (.two .no (.two (.two .no (.over (loopD z7v.xe z7t (loopC z3v)))) (.two (.join (fun _ => zek) .no .no) .no))))) Try.func52 (z0o [.den (.loop (subC (bodyC Try.f52) [1, 1, 0, 1, 0, 0])) (loopD z7v.xe z7t (loopC z3v)), .xs (fun _ => zek)] (by kernel_rfl) ⟨zrc, (z5r zrb), trivial⟩) (by kernel_rfl) z19i (fun x => by kernel_rfl)
def z1iu : Env := ⟨[(entQ z10w zwn)], [], []⟩
theorem z1et : EnvsOK Try.prog z1iu := ⟨z0p (z0q z1db) (z0x _), z0t _, z0u _⟩
def z10j : Shp := ⟨1, 0, [(0, .d .bool)], []⟩
def z16o : XS := .one .ret z10j.xe
theorem z1c9 : z16o.OK := XS.one_ok (z0c z10j)
def zpt (a : List Int) (b : List Int) : Option ((Bool)) :=
 (zvu a b).bind fun r =>
 some (leI r 0)
def z18c : Sig := ⟨27, [.d c1, .d c1], [], 0, z16o⟩
def z13x (x : (List Int) × (List Int)) : Option ((Bool)) := zpt x.1 x.2
theorem z1gp : FnOK Try.prog z18c z13x :=
 fn_ok z1et (h := .no) Try.func27 (z0o [] (by kernel_rfl) trivial) (by kernel_rfl) z1c9 (fun x => by kernel_rfl)
end Go.Proofs.Ytfbdjicfkcklfaa
set_option maxRecDepth 100000
set_option linter.unusedVariables false
noncomputable section
namespace Go.Proofs.Ytfbdjicfkcklfaa
open Go.Tm Go.Ab
end Go.Proofs.Ytfbdjicfkcklfaa