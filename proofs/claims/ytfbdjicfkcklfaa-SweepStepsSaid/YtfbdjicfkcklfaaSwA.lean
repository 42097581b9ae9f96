import Derived.Test.YtfbdjicfkcklfaaTm21to25
import Derived.Test.YtfbdjicfkcklfaaProg
set_option maxRecDepth 100000
set_option linter.unusedVariables false
noncomputable section
namespace Go.Proofs.Ytfbdjicfkcklfaa
open Go.Tm Go.Ab
abbrev T0 := Int × Int
abbrev T1 := T0 × (List Int) × Int × T0 × T0 × (List Int) × (List T0) × (List T0) × Int × (List Int) × Int
abbrev T2 := T0 × T0 × (List Int) × T0 × (List Int)
abbrev T3 := T0 × (List Int) × (List Int)
abbrev T4 := T0 × Bool × T0 × (List Int) × (List Int) × (List T3)
abbrev T5 := (List Int) × (List T4) × (List T2) × (List Int) × (List Bool)
def c0 : U := (.st (.cons (.int .i64) (.one (.int .u32))))
def c1 : U := (.arr 8 (.int .u32))
def r2 : Rt := .one (.st (.cons .leaf (.one .leaf)))
def c3 : U := (.sl (.st (.cons (.st (.cons (.int .i64) (.one (.int .u32)))) (.cons (.arr 8 (.int .u32)) (.cons (.int .i64) (.cons (.st (.cons (.int .i64) (.one (.int .u32)))) (.cons (.st (.cons (.int .i64) (.one (.int .u32)))) (.cons .str (.cons (.sl (.st (.cons (.int .i64) (.one (.int .u32))))) (.cons (.sl (.st (.cons (.int .i64) (.one (.int .u32))))) (.cons (.int .i64) (.cons .str (.one (.int .i64))))))))))))))
def c4 : U := (.sl (.st (.cons (.int .i64) (.one (.int .u32)))))
def c5 : U := (.sl (.st (.cons (.st (.cons (.int .i64) (.one (.int .u32)))) (.cons (.st (.cons (.int .i64) (.one (.int .u32)))) (.cons .str (.cons (.st (.cons (.int .i64) (.one (.int .u32)))) (.one (.arr 8 (.int .u32)))))))))
def c6 : U := (.st (.cons (.st (.cons (.int .i64) (.one (.int .u32)))) (.cons (.st (.cons (.int .i64) (.one (.int .u32)))) (.cons .str (.cons (.st (.cons (.int .i64) (.one (.int .u32)))) (.one (.arr 8 (.int .u32))))))))
def r7 : Rt := .one (.st (.cons (.st (.cons .leaf (.one .leaf))) (.cons (.st (.cons .leaf (.one .leaf))) (.cons .leaf (.cons (.st (.cons .leaf (.one .leaf))) (.one (.arr 8 .leaf)))))))
def r8 : Rt := .one (.st (.cons (.st (.cons .leaf (.one .leaf))) (.cons (.arr 8 .leaf) (.cons .leaf (.cons (.st (.cons .leaf (.one .leaf))) (.cons (.st (.cons .leaf (.one .leaf))) (.cons .leaf (.cons .leaf (.cons .leaf (.cons .leaf (.cons .leaf (.one .leaf))))))))))))
def c9 : U := (.st (.cons (.st (.cons (.int .i64) (.one (.int .u32)))) (.cons (.arr 8 (.int .u32)) (.cons (.int .i64) (.cons (.st (.cons (.int .i64) (.one (.int .u32)))) (.cons (.st (.cons (.int .i64) (.one (.int .u32)))) (.cons .str (.cons (.sl (.st (.cons (.int .i64) (.one (.int .u32))))) (.cons (.sl (.st (.cons (.int .i64) (.one (.int .u32))))) (.cons (.int .i64) (.cons .str (.one (.int .i64)))))))))))))
def c10 : U := (.sl (.st (.cons (.st (.cons (.int .i64) (.one (.int .u32)))) (.cons .str (.one (.arr 8 (.int .u32)))))))
def c11 : U := (.st (.cons (.st (.cons (.int .i64) (.one (.int .u32)))) (.cons .str (.one (.arr 8 (.int .u32))))))
def r12 : Rt := .one (.st (.cons (.st (.cons .leaf (.one .leaf))) (.cons .leaf (.one (.arr 8 .leaf)))))
def r13 : Rt := .one (.st (.cons (.st (.cons .leaf (.one .leaf))) (.cons .leaf (.cons (.st (.cons .leaf (.one .leaf))) (.cons .leaf (.cons (.arr 8 .leaf) (.one .leaf)))))))
def c14 : U := (.st (.cons (.st (.cons (.int .i64) (.one (.int .u32)))) (.cons .bool (.cons (.st (.cons (.int .i64) (.one (.int .u32)))) (.cons .str (.cons (.arr 8 (.int .u32)) (.one (.sl (.st (.cons (.st (.cons (.int .i64) (.one (.int .u32)))) (.cons .str (.one (.arr 8 (.int .u32))))))))))))))
def r15 : Rt := .one (.st (.cons (.arr 8 .leaf) (.cons .leaf (.cons .leaf (.cons (.arr 8 .leaf) (.one (.arr 8 .leaf)))))))
def c16 : U := (.arr 8 (.int .i64))
def c17 : U := (.st (.cons (.arr 8 (.int .u32)) (.cons (.sl (.st (.cons (.st (.cons (.int .i64) (.one (.int .u32)))) (.cons .bool (.cons (.st (.cons (.int .i64) (.one (.int .u32)))) (.cons .str (.cons (.arr 8 (.int .u32)) (.one (.sl (.st (.cons (.st (.cons (.int .i64) (.one (.int .u32)))) (.cons .str (.one (.arr 8 (.int .u32))))))))))))))) (.cons (.sl (.st (.cons (.st (.cons (.int .i64) (.one (.int .u32)))) (.cons (.st (.cons (.int .i64) (.one (.int .u32)))) (.cons .str (.cons (.st (.cons (.int .i64) (.one (.int .u32)))) (.one (.arr 8 (.int .u32))))))))) (.cons (.arr 8 (.int .i64)) (.one (.arr 8 .bool)))))))
def c18 : U := (.sl (.st (.cons (.st (.cons (.int .i64) (.one (.int .u32)))) (.cons .bool (.cons (.st (.cons (.int .i64) (.one (.int .u32)))) (.cons .str (.cons (.arr 8 (.int .u32)) (.one (.sl (.st (.cons (.st (.cons (.int .i64) (.one (.int .u32)))) (.cons .str (.one (.arr 8 (.int .u32)))))))))))))))
def z1or : Env := ⟨[], [], []⟩
theorem z17u : EnvsOK Try.prog z1or := ⟨z0x _, z0s _, z0t _⟩
def zmx : Shp := ⟨20, 0, [(2, .pt 0 (.one (.arr 8 .leaf)) []), (3, .pt 1 (.one (.arr 8 .leaf)) [])], [.var 25 (.d c1), .var 25 (.d c1)]⟩
def zbb : XS := .one (.exit 0) zmx.xe
theorem zyc : zbb.OK := XS.one_ok (z0c zmx)
def zbd : Shp := ⟨20, 0, [(1, .pt 0 r2 []), (2, .pt 1 (.one (.arr 8 .leaf)) []), (3, .pt 2 (.one (.arr 8 .leaf)) []), (4, .d (.int .i64))], [.var 43 (.d c0), .var 25 (.d c1), .var 25 (.d c1)]⟩
abbrev zi4 := Int × T0 × (List Int) × (List Int)
abbrev zpk := ((List Int) × (List Int))
def zib (i : Int) (id : T0) (t2 : List Int) (out : List Int) : Option (zi4 ⊕ zpk) :=
 bif ltI i 8 then
 bif eqI (W64 (i + 1)) id.1 then
 bif inI i 8 then
 (out[i.toNat]?).bind fun _x =>
 some (.inl (W64 (i + 1), id, t2, out.set i.toNat id.2))
 else none
 else
 some (.inl (W64 (i + 1), id, t2, out))
 else
 some (.inr (t2, out))
def z5q (s : zi4) : Option (zi4 ⊕ zpk) := zib s.1 s.2.1 s.2.2.1 s.2.2.2
theorem zzf : SoundD Try.prog (.loop (subC (bodyC Try.f56) [1, 1, 0, 1, 0, 0])) (loopD zbd.xe zbb (loopC z5q)) :=
 z0w (S := zbd.xe) (X := zbb) z17u (h := .no) (z0p [] (by kernel_rfl) trivial) (z0c zbd) zyc z5q (fun s => by kernel_rfl)
def z17r : Shp := ⟨1, 0, [(0, .d c1)], []⟩
def z1eb : XS := .one .ret z17r.xe
theorem z1jg : z1eb.OK := XS.one_ok (z0c z17r)
def z10x (id : T0) : Option (((List Int))) :=
 (loopC z5q (0, id, List.replicate 8 (0 : Int), List.replicate 8 (0 : Int))).bind fun o =>
 some o.2
def z1eg : Sig := ⟨56, [.d c0], [], 0, z1eb⟩
def z19x (x : T0) : Option (((List Int))) := z10x x
theorem z1mc : FnOK Try.prog z1eg z19x :=
 fn_ok z17u (h := (.two .no (.two .no (.two (.two .no (.over (loopD zbd.xe zbb (loopC z5q)))) .no)))) Try.func56 (z0p [.den (.loop (subC (bodyC Try.f56) [1, 1, 0, 1, 0, 0])) (loopD zbd.xe zbb (loopC z5q))] (by kernel_rfl) ⟨zzf, trivial⟩) (by kernel_rfl) z1jg (fun x => by kernel_rfl)
def z1ml : Env := ⟨[], [], []⟩
theorem z14u : EnvsOK Try.prog z1ml := ⟨z0x _, z0s _, z0t _⟩
def zky : Shp := ⟨30, 0, [(4, .pt 0 (.one (.arr 8 .leaf)) []), (5, .pt 1 (.one (.arr 8 .leaf)) [])], [.var 25 (.d c1), .var 25 (.d c1)]⟩
def zaz : XS := .one (.exit 0) zky.xe
theorem zwp : zaz.OK := XS.one_ok (z0c zky)
def zaw : Shp := ⟨30, 0, [(2, .pt 0 (.one (.arr 8 .leaf)) []), (3, .pt 1 (.one (.arr 8 .leaf)) []), (4, .pt 2 (.one (.arr 8 .leaf)) []), (5, .pt 3 (.one (.arr 8 .leaf)) []), (6, .d (.int .i64))], [.var 25 (.d c1), .var 25 (.d c1), .var 25 (.d c1), .var 25 (.d c1)]⟩
abbrev zgu := Int × (List Int) × (List Int) × (List Int) × (List Int)
abbrev zok := ((List Int) × (List Int))
def zgw (i : Int) (a : List Int) (b : List Int) (t4 : List Int) (out : List Int) : Option (zgu ⊕ zok) :=
 bif ltI i 8 then
 bif inI i 8 then
 (a[i.toNat]?).bind fun x =>
 bif inI i 8 then
 (out[i.toNat]?).bind fun _x =>
 bif inI i 8 then
 (b[i.toNat]?).bind fun x2 =>
 bif inI i 8 then
 (a[i.toNat]?).bind fun x3 =>
 bif ltI x3 x2 then
 bif inI i 8 then
 (b[i.toNat]?).bind fun x4 =>
 bif inI i 8 then
 ((out.set i.toNat x)[i.toNat]?).bind fun _x2 =>
 some (.inl (W64 (i + 1), a, b, t4, (out.set i.toNat x).set i.toNat x4))
 else none
 else none
 else
 some (.inl (W64 (i + 1), a, b, t4, out.set i.toNat x))
 else none
 else none
 else none
 else none
 else
 some (.inr (t4, out))
def z5e (s : zgu) : Option (zgu ⊕ zok) := zgw s.1 s.2.1 s.2.2.1 s.2.2.2.1 s.2.2.2.2
theorem zyf : SoundD Try.prog (.loop (subC (bodyC Try.f17) [1, 1, 0, 1, 0, 0])) (loopD zaw.xe zaz (loopC z5e)) :=
 z0w (S := zaw.xe) (X := zaz) z14u (h := .no) (z0p [] (by kernel_rfl) trivial) (z0c zaw) zwp z5e (fun s => by kernel_rfl)
def z12w : Shp := ⟨1, 0, [(0, .d c1)], []⟩
def z1bw : XS := .one .ret z12w.xe
theorem z1hx : z1bw.OK := XS.one_ok (z0c z12w)
def zgd (a : List Int) (b : List Int) : Option (((List Int))) :=
 (loopC z5e (0, a, b, List.replicate 8 (0 : Int), List.replicate 8 (0 : Int))).bind fun o =>
 some o.2
def zi2 : Sig := ⟨17, [.d c1, .d c1], [], 0, z1bw⟩
def zfv (x : (List Int) × (List Int)) : Option (((List Int))) := zgd x.1 x.2
theorem zjk : FnOK Try.prog zi2 zfv :=
 fn_ok z14u (h := (.two .no (.two .no (.two (.two .no (.over (loopD zaw.xe zaz (loopC z5e)))) .no)))) Try.func17 (z0p [.den (.loop (subC (bodyC Try.f17) [1, 1, 0, 1, 0, 0])) (loopD zaw.xe zaz (loopC z5e))] (by kernel_rfl) ⟨zyf, trivial⟩) (by kernel_rfl) z1hx (fun x => by kernel_rfl)
def z1mh : Env := ⟨[(entQ z1eg z19x), (entQ zi2 zfv)], [], []⟩
theorem z1ir : EnvsOK Try.prog z1mh := ⟨z0o (z0q z1mc) (z0o (z0q zjk) (z0x _)), z0s _, z0t _⟩
def z13t : Shp := ⟨1, 0, [(0, .d c1)], []⟩
def z19m : XS := .one .ret z13t.xe
theorem z1hm : z19m.OK := XS.one_ok (z0c z13t)
def z9j (v : List Int) (id : T0) : Option (((List Int))) :=
 (z10x id).bind fun r =>
 (zgd v r).bind fun r2 =>
 some r2
def z8r : Sig := ⟨33, [.d c1, .d c0], [], 0, z19m⟩
def z7e (x : (List Int) × T0) : Option (((List Int))) := z9j x.1 x.2
theorem z9c : FnOK Try.prog z8r z7e :=
 fn_ok z1ir (h := .no) Try.func33 (z0p [] (by kernel_rfl) trivial) (by kernel_rfl) z1hm (fun x => by kernel_rfl)
def z1l2 : Env := ⟨[(entQ z8r z7e)], [], []⟩
theorem z11h : EnvsOK Try.prog z1l2 := ⟨z0o (z0q z9c) (z0x _), z0s _, z0t _⟩
def zki : Shp := ⟨20, 0, [(2, .pt 0 (.one (.arr 8 .leaf)) []), (3, .pt 1 (.one (.arr 8 .leaf)) [])], [.var 25 (.d c1), .var 25 (.d c1)]⟩
def z9o : XS := .one (.exit 0) zki.xe
theorem zuo : z9o.OK := XS.one_ok (z0c zki)
def z9p : Shp := ⟨20, 0, [(0, .d c3), (2, .pt 0 (.one (.arr 8 .leaf)) []), (3, .pt 1 (.one (.arr 8 .leaf)) []), (4, .d (.int .i64))], [.var 25 (.d c1), .var 25 (.d c1)]⟩
abbrev zfo := (List T1) × Int × (List Int) × (List Int)
abbrev zmy := ((List Int) × (List Int))
def zfl (l : List T1) (i : Int) (t2 : List Int) (v : List Int) : Option (zfo ⊕ zmy) :=
 z0u (List.length l) (
 bif ltI i (List.length l : Nat) then
 (idxI l i).bind fun x =>
 (z9j v x.1).bind fun r =>
 some (.inl (l, W64 (i + 1), t2, r))
 else
 some (.inr (t2, v)))
def z4q (s : zfo) : Option (zfo ⊕ zmy) := zfl s.1 s.2.1 s.2.2.1 s.2.2.2
theorem zw6 : SoundD Try.prog (.loop (subC (bodyC Try.f28) [1, 1, 0, 1, 0, 0])) (loopD z9p.xe z9o (loopC z4q)) :=
 z0w (S := z9p.xe) (X := z9o) z11h (h := .no) (z0p [] (by kernel_rfl) trivial) (z0c z9p) zuo z4q (fun s => by kernel_rfl)
def z11d : Shp := ⟨1, 0, [(0, .d c1)], []⟩
def z17c : XS := .one .ret z11d.xe
theorem z1fu : z17c.OK := XS.one_ok (z0c z11d)
def zo5 (l : List T1) : Option (((List Int))) :=
 (loopC z4q (l, 0, List.replicate 8 (0 : Int), List.replicate 8 (0 : Int))).bind fun o =>
 some o.2
def zup : Sig := ⟨28, [.d c3], [], 0, z17c⟩
def zsq (x : (List T1)) : Option (((List Int))) := zo5 x
theorem z14m : FnOK Try.prog zup zsq :=
 fn_ok z11h (h := (.two .no (.two .no (.two (.two .no (.over (loopD z9p.xe z9o (loopC z4q)))) .no)))) Try.func28 (z0p [.den (.loop (subC (bodyC Try.f28) [1, 1, 0, 1, 0, 0])) (loopD z9p.xe z9o (loopC z4q))] (by kernel_rfl) ⟨zw6, trivial⟩) (by kernel_rfl) z1fu (fun x => by kernel_rfl)
def z1qh : Env := ⟨[], [], []⟩
theorem z1b2 : EnvsOK Try.prog z1qh := ⟨z0x _, z0s _, z0t _⟩
def zre : Shp := ⟨18, 0, [], []⟩
def zrn : Shp := ⟨18, 0, [(4, .d .bool)], []⟩
def zdj : XS := .or (.exit 0) zre.xe (.one .ret zrn.xe)
theorem z15f : zdj.OK := XS.or_ok (z0c zre) (XS.one_ok (z0c zrn))
def zda : Shp := ⟨18, 0, [(0, .d c4), (3, .pt 0 r2 []), (5, .d (.int .i64))], [.var 43 (.d c0)]⟩
abbrev zly := (List T0) × Int × T0
abbrev zuh := (Unit) ⊕ (Bool)
def zgo (l : List T0) (i : Int) (x : T0) : Option (zly ⊕ zuh) :=
 z0u (List.length l) (
 bif ltI i (List.length l : Nat) then
 (idxI l i).bind fun x2 =>
 bif eqU c0 x2 x then
 some (.inr (.inr true))
 else
 some (.inl (l, W64 (i + 1), x))
 else
 some (.inr (.inl ())))
def z6l (s : zly) : Option (zly ⊕ zuh) := zgo s.1 s.2.1 s.2.2
theorem z16u : SoundD Try.prog (.loop (subC (bodyC Try.f53) [1, 0, 1, 0, 0])) (loopD zda.xe zdj (loopC z6l)) :=
 z0w (S := zda.xe) (X := zdj) z1b2 (h := .no) (z0p [] (by kernel_rfl) trivial) (z0c zda) z15f z6l (fun s => by kernel_rfl)
def z1c4 : Shp := ⟨1, 0, [(0, .d .bool)], []⟩
def z1h0 : XS := .one .ret z1c4.xe
theorem z1l4 : z1h0.OK := XS.one_ok (z0c z1c4)
def zhj (l : List T0) (x : T0) : Option ((Bool)) :=
 (loopC z6l (l, 0, x)).bind fun o =>
 Sum.elim (fun y =>
 some false) (fun y2 =>
 some y2) o
def zqm : Sig := ⟨53, [.d c4, .d c0], [], 0, z1h0⟩
def zo0 (x : (List T0) × T0) : Option ((Bool)) := zhj x.1 x.2
theorem ztd : FnOK Try.prog zqm zo0 :=
 fn_ok z1b2 (h := (.two .no (.two (.two .no (.over (loopD zda.xe zdj (loopC z6l)))) .no))) Try.func53 (z0p [.den (.loop (subC (bodyC Try.f53) [1, 0, 1, 0, 0])) (loopD zda.xe zdj (loopC z6l))] (by kernel_rfl) ⟨z16u, trivial⟩) (by kernel_rfl) z1l4 (fun x => by kernel_rfl)
def z1j8 : Env := ⟨[], [], []⟩
theorem z1g0 : EnvsOK Try.prog z1j8 := ⟨z0x _, z0s _, z0t _⟩
def zy2 : Shp := ⟨1, 0, [(0, .d .bool)], []⟩
def z13l : XS := .one .ret zy2.xe
theorem z1cz : z13l.OK := XS.one_ok (z0c zy2)
def zas (a : T0) (b : T0) : Option ((Bool)) :=
 bif ltI a.2 b.2 then
 some true
 else
 bif eqI a.2 b.2 then
 some (ltI a.1 b.1)
 else
 some false
def zba : Sig := ⟨31, [.d c0, .d c0], [], 0, z13l⟩
def za5 (x : T0 × T0) : Option ((Bool)) := zas x.1 x.2
theorem zbx : FnOK Try.prog zba za5 :=
 fn_ok z1g0 (h := .no) Try.func31 (z0p [] (by kernel_rfl) trivial) (by kernel_rfl) z1cz (fun x => by kernel_rfl)
def z1ot : Env := ⟨[(entQ zi2 zfv), (entQ zba za5)], [], []⟩
theorem z17j : EnvsOK Try.prog z1ot := ⟨z0o (z0q zjk) (z0o (z0q zbx) (z0x _)), z0s _, z0t _⟩
def zea : Shp := ⟨67, 0, [(0, .d c5), (3, .pt 0 r7 []), (5, .wn 1 c6), (6, .d .bool), (7, .d (.int .i64))], [.var 45 (.d c6), .row 45 c6]⟩
def zb8 : XS := .one .normal zea.xe
theorem zmr : zb8.OK := XS.one_ok (z0c zea)
def zdc : Shp := ⟨67, 0, [(0, .d c5), (3, .pt 0 r7 []), (5, .wn 1 c6), (6, .d .bool), (7, .d (.int .i64)), (48, .d .bool)], [.var 45 (.d c6), .row 45 c6]⟩
def za1 : XS := .one .normal zdc.xe
theorem zks : za1.OK := XS.one_ok (z0c zdc)
def zkk : Shp := ⟨67, 0, [(3, .pt 0 r7 []), (5, .wn 1 c6), (6, .d .bool)], [.var 45 (.d c6), .row 45 c6]⟩
def z9t : XS := .one (.exit 0) zkk.xe
theorem zv1 : z9t.OK := XS.one_ok (z0c zkk)
def z9m : Shp := ⟨67, 0, [(0, .d c5), (3, .pt 0 r7 []), (5, .wn 1 c6), (6, .d .bool), (7, .d (.int .i64))], [.var 45 (.d c6), .row 45 c6]⟩
abbrev zfk := (List T2) × Bool × Int × T2 × (List T2)
abbrev zn6 := (Bool × T2 × (List T2))
def zca (l : List T2) (put : Bool) (i : Int) (x : T2) (out : List T2) : Option (zfk ⊕ zn6) :=
 z0u (List.length l) (
 bif ltI i (List.length l : Nat) then
 (idxI l i).bind fun x2 =>
 bif eqU c0 x2.1 x.1 then
 (idxI l i).bind fun x3 =>
 (zgd x3.2.2.2.2 x.2.2.2.2).bind fun r =>
 bif Nat.beq (List.length out) (List.length out) then
 appG (List.length out) (List.length ([(x3.1, x3.2.1, x3.2.2.1, x3.2.2.2.1, r)] : List T2)) 96 fun _ =>
 bif Nat.beq (List.length (out ++ ([(x3.1, x3.2.1, x3.2.2.1, x3.2.2.2.1, r)] : List T2))) (List.length (out ++ ([(x3.1, x3.2.1, x3.2.2.1, x3.2.2.2.1, r)] : List T2))) then
 some (.inl (l, true, W64 (i + 1), x, out ++ ([(x3.1, x3.2.1, x3.2.2.1, x3.2.2.2.1, r)] : List T2)))
 else none
 else none
 else
 (show Option (((List T2) × Bool × Int × T2 × (List T2))) from
 (show Option (((List T2) × Bool × Int × Bool × T2 × (List T2))) from
 bif !put then
 (idxI l i).bind fun x4 =>
 (zas x.1 x4.1).bind fun r2 =>
 bif Nat.beq (List.length out) (List.length out) then
 some (l, put, i, r2, x, out)
 else none
 else
 bif Nat.beq (List.length out) (List.length out) then
 some (l, put, i, false, x, out)
 else none).bind fun j =>
 bif j.2.2.2.1 then
 bif Nat.beq (List.length j.2.2.2.2.2) (List.length j.2.2.2.2.2) then
 appG (List.length j.2.2.2.2.2) (List.length ([j.2.2.2.2.1] : List T2)) 96 fun _ =>
 bif Nat.beq (List.length (j.2.2.2.2.2 ++ ([j.2.2.2.2.1] : List T2))) (List.length (j.2.2.2.2.2 ++ ([j.2.2.2.2.1] : List T2))) then
 some (j.1, true, j.2.2.1, j.2.2.2.2.1, j.2.2.2.2.2 ++ ([j.2.2.2.2.1] : List T2))
 else none
 else none
 else
 bif Nat.beq (List.length j.2.2.2.2.2) (List.length j.2.2.2.2.2) then
 some (j.1, j.2.1, j.2.2.1, j.2.2.2.2.1, j.2.2.2.2.2)
 else none).bind fun j2 =>
 (idxI j2.1 j2.2.2.1).bind fun x5 =>
 bif Nat.beq (List.length j2.2.2.2.2) (List.length j2.2.2.2.2) then
 appG (List.length j2.2.2.2.2) (List.length ([x5] : List T2)) 96 fun _ =>
 bif Nat.beq (List.length (j2.2.2.2.2 ++ ([x5] : List T2))) (List.length (j2.2.2.2.2 ++ ([x5] : List T2))) then
 some (.inl (j2.1, j2.2.1, W64 (j2.2.2.1 + 1), j2.2.2.2.1, j2.2.2.2.2 ++ ([x5] : List T2)))
 else none
 else none
 else
 bif Nat.beq (List.length out) (List.length out) then
 some (.inr (put, x, out))
 else none)
def z3m (s : zfk) : Option (zfk ⊕ zn6) := zca s.1 s.2.1 s.2.2.1 s.2.2.2.1 s.2.2.2.2
theorem zw8 : SoundD Try.prog (.loop (subC (bodyC Try.f54) [1, 1, 1, 0, 1, 0, 0])) (loopD z9m.xe z9t (loopC z3m)) :=
 z0w (S := z9m.xe) (X := z9t) z17j (h := (.two .no (.two (.two .no (.join (fun _ => zb8) (.join (fun _ => za1) .no .no) .no)) .no))) (z0p [.xs (fun _ => zb8), .xs (fun _ => za1)] (by kernel_rfl) ⟨(z2j zmr), (z2j zks), trivial⟩) (z0c z9m) zv1 z3m (fun s => by kernel_rfl)
def z18h : Shp := ⟨1, 0, [(0, .d c5)], []⟩
def z1du : XS := .one .ret z18h.xe
theorem z1iu : z1du.OK := XS.one_ok (z0c z18h)
def zg6 (l : List T2) (x : T2) : Option (((List T2))) :=
 bif Nat.beq 0 (List.length ([] : List T2)) then
 (loopC z3m (l, false, 0, x, ([] : List T2))).bind fun o =>
 bif !o.1 then
 bif Nat.beq (List.length o.2.2) (List.length o.2.2) then
 appG (List.length o.2.2) (List.length ([o.2.1] : List T2)) 96 fun _ =>
 winK (o.2.2 ++ ([o.2.1] : List T2)) 0 (List.length (o.2.2 ++ ([o.2.1] : List T2))) fun w =>
 some w
 else none
 else
 winK o.2.2 0 (List.length o.2.2) fun w2 =>
 some w2
 else none
def z11r : Sig := ⟨54, [.d c5, .d c6], [], 0, z1du⟩
def zxq (x : (List T2) × T2) : Option (((List T2))) := zg6 x.1 x.2
theorem z1a6 : FnOK Try.prog z11r zxq :=
 fn_ok z17j (h := (.two .no (.two .no (.two .no (.two (.two .no (.over (loopD z9m.xe z9t (loopC z3m)))) .no))))) Try.func54 (z0p [.den (.loop (subC (bodyC Try.f54) [1, 1, 1, 0, 1, 0, 0])) (loopD z9m.xe z9t (loopC z3m))] (by kernel_rfl) ⟨zw8, trivial⟩) (by kernel_rfl) z1iu (fun x => by kernel_rfl)
def z1gu : Env := ⟨[(entQ zqm zo0), (entQ z8r z7e), (entQ z11r zxq)], [], []⟩
theorem znf : EnvsOK Try.prog z1gu := ⟨z0o (z0q ztd) (z0o (z0q z9c) (z0o (z0q z1a6) (z0x _))), z0s _, z0t _⟩
def zdi : Shp := ⟨101, 0, [(0, .d c3), (3, .d c5), (4, .d (.int .i64)), (5, .pt 0 r8 [])], [.var 67 (.d c9)]⟩
def zdo : Shp := ⟨101, 0, [(0, .d c3), (3, .d c5), (4, .d (.int .i64)), (23, .pt 0 r8 [.fld 2]), (24, .d (.int .i64)), (25, .d .bool), (28, .pt 0 r8 [.fld 2]), (29, .d (.int .i64)), (30, .d .bool)], [.var 67 (.d c9)]⟩
def z9z : XS := .or .normal zdi.xe (.one (.exit 1) zdo.xe)
theorem zkt : z9z.OK := XS.or_ok (z0c zdi) (XS.one_ok (z0c zdo))
def zbv : Shp := ⟨101, 0, [(0, .d c3), (3, .d c5), (4, .d (.int .i64)), (6, .pt 0 r7 [])], [.var 45 (.d c6)]⟩
def z7o : XS := .one .normal zbv.xe
theorem zif : z7o.OK := XS.one_ok (z0c zbv)
def z6e : Shp := ⟨101, 0, [(0, .d c3), (3, .d c5), (4, .d (.int .i64)), (6, .pt 0 r7 []), (7, .d (.int .i64)), (8, .d .bool)], [.var 45 (.d c6)]⟩
def z3c : XS := .one .normal z6e.xe
theorem zch : z3c.OK := XS.one_ok (z0c z6e)
def z5l : Shp := ⟨101, 0, [(0, .d c3), (3, .d c5), (4, .d (.int .i64)), (6, .pt 0 r7 []), (7, .d (.int .i64)), (87, .d .bool)], [.var 45 (.d c6)]⟩
def z2z : XS := .one .normal z5l.xe
theorem zc4 : z2z.OK := XS.one_ok (z0c z5l)
def z8l : Shp := ⟨101, 0, [(0, .d c3), (3, .d c5), (4, .d (.int .i64)), (6, .pt 0 r7 [])], [.var 45 (.d c6)]⟩
def z2a : XS := .one (.exit 2) z8l.xe
theorem zeh : z2a.OK := XS.one_ok (z0c z8l)
def z1z : Shp := ⟨101, 0, [(0, .d c3), (3, .d c5), (4, .d (.int .i64)), (6, .pt 0 r7 []), (7, .d (.int .i64))], [.var 45 (.d c6)]⟩
abbrev z4l := (List T1) × (List T2) × Int × Int × T2
abbrev z9e := ((List T1) × (List T2) × Int × T2)
def z1y (l : List T1) (out : List T2) (i : Int) (k : Int) (x : T2) : Option (z4l ⊕ z9e) :=
 z0u (List.length l) (
 bif ltI k (List.length l : Nat) then
 (show Option (((List T1) × (List T2) × Int × Int × Bool × T2)) from
 (idxI l k).bind fun x2 =>
 bif eqI x2.2.2.1 6 then
 some (l, out, i, k, true, x)
 else
 (idxI l k).bind fun x3 =>
 some (l, out, i, k, eqI x3.2.2.1 7, x)).bind fun j =>
 (show Option (((List T1) × (List T2) × Int × Int × Bool × T2)) from
 bif j.2.2.2.2.1 then
 (idxI j.1 j.2.2.2.1).bind fun x4 =>
 bif eqU c0 x4.2.2.2.1 j.2.2.2.2.2.2.2.2.1 then
 (idxI j.1 j.2.2.2.1).bind fun x5 =>
 (zhj x5.2.2.2.2.2.2.1 j.2.2.2.2.2.1).bind fun r =>
 some (j.1, j.2.1, j.2.2.1, j.2.2.2.1, r, j.2.2.2.2.2)
 else
 some (j.1, j.2.1, j.2.2.1, j.2.2.2.1, false, j.2.2.2.2.2)
 else
 some (j.1, j.2.1, j.2.2.1, j.2.2.2.1, false, j.2.2.2.2.2)).bind fun j2 =>
 bif j2.2.2.2.2.1 then
 (idxI j2.1 j2.2.2.2.1).bind fun x6 =>
 (z9j j2.2.2.2.2.2.2.2.2.2 x6.1).bind fun r2 =>
 some (.inl (j2.1, j2.2.1, j2.2.2.1, W64 (j2.2.2.2.1 + 1), (j2.2.2.2.2.2.1, j2.2.2.2.2.2.2.1, j2.2.2.2.2.2.2.2.1, j2.2.2.2.2.2.2.2.2.1, r2)))
 else
 some (.inl (j2.1, j2.2.1, j2.2.2.1, W64 (j2.2.2.2.1 + 1), j2.2.2.2.2.2))
 else
 some (.inr (l, out, i, x)))
def z0v (s : z4l) : Option (z4l ⊕ z9e) := z1y s.1 s.2.1 s.2.2.1 s.2.2.2.1 s.2.2.2.2
theorem zeu : SoundD Try.prog (.loop (subC (bodyC Try.f29) [1, 1, 0, 1, 0, 0, 1, 0, 0, 1, 1, 1, 1, 0, 1, 0, 0])) (loopD z1z.xe z2a (loopC z0v)) :=
 z0w (S := z1z.xe) (X := z2a) znf (h := (.two .no (.two (.join (fun _ => z3c) .no (.join (fun _ => z2z) .no .no)) .no))) (z0p [.xs (fun _ => z3c), .xs (fun _ => z2z)] (by kernel_rfl) ⟨(z2j zch), (z2j zc4), trivial⟩) (z0c z1z) zeh z0v (fun s => by kernel_rfl)
def zit : Shp := ⟨101, 0, [(3, .d c5)], []⟩
def z8d : XS := .one (.exit 0) zit.xe
theorem zsh : z8d.OK := XS.one_ok (z0c zit)
def z8g : Shp := ⟨101, 0, [(0, .d c3), (3, .d c5), (4, .d (.int .i64))], []⟩
abbrev zef := (List T1) × (List T2) × Int
abbrev zkq := ((List T2))
def z7x (l : List T1) (out : List T2) (i : Int) : Option (zef ⊕ zkq) :=
 z0u (List.length l) (
 bif ltI i (List.length l : Nat) then
 (idxI l i).bind fun x =>
 (show Option (((List T1) × (List T2) × Int × T1) ⊕ ((List T1) × (List T2) × Int × Int × Bool × Int × Bool × T1)) from
 bif neI x.2.2.1 1 then
 bif neI x.2.2.1 2 then
 bif neI x.2.2.1 7 then
 some (.inr (l, out, i, x.2.2.1, neI x.2.2.1 2, x.2.2.1, neI x.2.2.1 7, x))
 else
 some (.inl (l, out, i, x))
 else
 some (.inl (l, out, i, x))
 else
 some (.inl (l, out, i, x))).bind fun j =>
 Sum.elim (fun y =>
 (show Option (((List T1) × (List T2) × Int × T2)) from
 bif eqI y.2.2.2.2.2.1 7 then
 some (y.1, y.2.1, y.2.2.1, (y.2.2.2.1, y.2.2.2.2.2.2.2.1, y.2.2.2.2.2.2.2.2.1, y.2.2.2.2.2.2.1, List.replicate 8 (0 : Int)))
 else
 some (y.1, y.2.1, y.2.2.1, (y.2.2.2.1, y.2.2.2.2.2.2.2.1, y.2.2.2.2.2.2.2.2.1, y.2.2.2.1, List.replicate 8 (0 : Int)))).bind fun j2 =>
 (loopC z0v (j2.1, j2.2.1, j2.2.2.1, 0, j2.2.2.2)).bind fun o =>
 (zg6 o.2.1 o.2.2.2).bind fun r =>
 some (.inl (o.1, r, W64 (o.2.2.1 + 1)))) (fun y2 =>
 some (.inl (y2.1, y2.2.1, W64 (y2.2.2.1 + 1)))) j
 else
 some (.inr out))
def z2r (s : zef) : Option (zef ⊕ zkq) := z7x s.1 s.2.1 s.2.2
theorem zum : SoundD Try.prog (.loop (subC (bodyC Try.f29) [1, 1, 0, 1, 0, 0])) (loopD z8g.xe z8d (loopC z2r)) :=
 z0w (S := z8g.xe) (X := z8d) znf (h := (.two .no (.two (.two .no (.join (fun _ => z9z) .no (.two .no (.join (fun _ => z7o) .no (.two (.two .no (.over (loopD z1z.xe z2a (loopC z0v)))) .no))))) .no))) (z0p [.xs (fun _ => z9z), .xs (fun _ => z7o), .den (.loop (subC (bodyC Try.f29) [1, 1, 0, 1, 0, 0, 1, 0, 0, 1, 1, 1, 1, 0, 1, 0, 0])) (loopD z1z.xe z2a (loopC z0v))] (by kernel_rfl) ⟨(z2j zkt), (z2j zif), zeu, trivial⟩) (z0c z8g) zsh z2r (fun s => by kernel_rfl)
def zvh : Shp := ⟨1, 0, [(0, .d c5)], []⟩
def z10v : XS := .one .ret zvh.xe
theorem z1bg : z10v.OK := XS.one_ok (z0c zvh)
def zdx (l : List T1) : Option (((List T2))) :=
 (loopC z2r (l, [], 0)).bind fun o =>
 some o
def zzy : Sig := ⟨29, [.d c3], [], 0, z10v⟩
def zyp (x : (List T1)) : Option (((List T2))) := zdx x
theorem z1fq : FnOK Try.prog zzy zyp :=
 fn_ok znf (h := (.two .no (.two .no (.two (.two .no (.over (loopD z8g.xe z8d (loopC z2r)))) .no)))) Try.func29 (z0p [.den (.loop (subC (bodyC Try.f29) [1, 1, 0, 1, 0, 0])) (loopD z8g.xe z8d (loopC z2r))] (by kernel_rfl) ⟨zum, trivial⟩) (by kernel_rfl) z1bg (fun x => by kernel_rfl)
def z1ix : Env := ⟨[], [], []⟩
theorem z1ex : EnvsOK Try.prog z1ix := ⟨z0x _, z0s _, z0t _⟩
def zxg : Shp := ⟨1, 0, [(0, .d .bool)], []⟩
def z12k : XS := .one .ret zxg.xe
theorem z1d6 : z12k.OK := XS.one_ok (z0c zxg)
def zfb (t0 : T1) : Option ((Bool)) :=
 bif eqI t0.2.2.1 3 then
 some true
 else
 bif eqI t0.2.2.1 4 then
 some true
 else
 some (eqI t0.2.2.1 5)
def zso : Sig := ⟨77, [.d c9], [], 0, z12k⟩
def zqc (x : T1) : Option ((Bool)) := zfb x
theorem zzn : FnOK Try.prog zso zqc :=
 fn_ok z1ex (h := .no) Try.func77 (z0p [] (by kernel_rfl) trivial) (by kernel_rfl) z1d6 (fun x => by kernel_rfl)
def z1of : Env := ⟨[], [], []⟩
theorem z12n : EnvsOK Try.prog z1of := ⟨z0x _, z0s _, z0t _⟩
def znj : Shp := ⟨25, 0, [(4, .pt 0 r8 [])], [.var 67 (.d c9)]⟩
def zoe : Shp := ⟨25, 0, [(4, .pt 0 r8 []), (5, .d .bool)], [.var 67 (.d c9)]⟩
def zbz : XS := .or (.exit 0) znj.xe (.one .ret zoe.xe)
theorem zzj : zbz.OK := XS.or_ok (z0c znj) (XS.one_ok (z0c zoe))
def zc0 : Shp := ⟨25, 0, [(0, .d c3), (3, .pt 0 r2 []), (4, .pt 1 r8 []), (6, .d (.int .i64))], [.var 43 (.d c0), .var 67 (.d c9)]⟩
abbrev ziy := (List T1) × Int × T0 × T1
abbrev zqt := (T1) ⊕ (Bool × T1)
def zj5 (l : List T1) (i : Int) (x : T0) (t4 : T1) : Option (ziy ⊕ zqt) :=
 z0u (List.length l) (
 bif ltI i (List.length l : Nat) then
 (idxI l i).bind fun x2 =>
 bif eqU c0 x2.1 x then
 (idxI l i).bind fun x3 =>
 some (.inr (.inr (true, x3)))
 else
 some (.inl (l, W64 (i + 1), x, t4))
 else
 some (.inr (.inl t4)))
def z6t (s : ziy) : Option (ziy ⊕ zqt) := zj5 s.1 s.2.1 s.2.2.1 s.2.2.2
theorem z11s : SoundD Try.prog (.loop (subC (bodyC Try.f91) [1, 0, 1, 0, 0])) (loopD zc0.xe zbz (loopC z6t)) :=
 z0w (S := zc0.xe) (X := zbz) z12n (h := .no) (z0p [] (by kernel_rfl) trivial) (z0c zc0) zzj z6t (fun s => by kernel_rfl)
def z13g : Shp := ⟨1, 0, [(0, .tu [.d c9, .d .bool])], []⟩
def z1b4 : XS := .one .ret z13g.xe
theorem z1i2 : z1b4.OK := XS.one_ok (z0c z13g)
def zwc (l : List T1) (x : T0) : Option ((T1 × Bool)) :=
 (loopC z6t (l, 0, x, ((0, 0), List.replicate 8 (0 : Int), 0, (0, 0), (0, 0), [], [], [], 0, [], 0))).bind fun o =>
 Sum.elim (fun y =>
 some (((0, 0), List.replicate 8 (0 : Int), 0, (0, 0), (0, 0), [], [], [], 0, [], 0), false)) (fun y2 =>
 some (y2.2, y2.1)) o
def z1b0 : Sig := ⟨91, [.d c3, .d c0], [], 0, z1b4⟩
def z17z (x : (List T1) × T0) : Option ((T1 × Bool)) := zwc x.1 x.2
theorem z1ln : FnOK Try.prog z1b0 z17z :=
 fn_ok z12n (h := (.two .no (.two (.two .no (.over (loopD zc0.xe zbz (loopC z6t)))) .no))) Try.func91 (z0p [.den (.loop (subC (bodyC Try.f91) [1, 0, 1, 0, 0])) (loopD zc0.xe zbz (loopC z6t))] (by kernel_rfl) ⟨z11s, trivial⟩) (by kernel_rfl) z1i2 (fun x => by kernel_rfl)
def z1l5 : Env := ⟨[], [], []⟩
theorem zzk : EnvsOK Try.prog z1l5 := ⟨z0x _, z0s _, z0t _⟩
def zkh : Shp := ⟨13, 0, [(3, .d .str)], []⟩
def z9v : XS := .one (.exit 0) zkh.xe
theorem zun : z9v.OK := XS.one_ok (z0c zkh)
def z9u : Shp := ⟨13, 0, [(0, .d (.int .i64)), (3, .d .str), (4, .d (.int .i64))], []⟩
abbrev zfm := Int × (List Int) × Int
abbrev zn3 := ((List Int))
def zfq (n : Int) (t3 : List Int) (i : Int) : Option (zfm ⊕ zn3) :=
 bif ltI i n then
 catG t3 ([0] : List Int) fun _ =>
 some (.inl (n, t3 ++ ([0] : List Int), W64 (i + 1)))
 else
 some (.inr t3)
def z4u (s : zfm) : Option (zfm ⊕ zn3) := zfq s.1 s.2.1 s.2.2
theorem zw5 : SoundD Try.prog (.loop (subC (bodyC Try.f95) [1, 1, 0, 1, 0, 0])) (loopD z9u.xe z9v (loopC z4u)) :=
 z0w (S := z9u.xe) (X := z9v) zzk (h := .no) (z0p [] (by kernel_rfl) trivial) (z0c z9u) zun z4u (fun s => by kernel_rfl)
def z10i : Shp := ⟨1, 0, [(0, .d .str)], []⟩
def z17h : XS := .one .ret z10i.xe
theorem z1fd : z17h.OK := XS.one_ok (z0c z10i)
def zo6 (n : Int) : Option (((List Int))) :=
 (loopC z4u (n, ([] : List Int), 0)).bind fun o =>
 some o
def zur : Sig := ⟨95, [.d (.int .i64)], [], 0, z17h⟩
def zt6 (x : Int) : Option (((List Int))) := zo6 x
theorem z14g : FnOK Try.prog zur zt6 :=
 fn_ok zzk (h := (.two .no (.two .no (.two (.two .no (.over (loopD z9u.xe z9v (loopC z4u)))) .no)))) Try.func95 (z0p [.den (.loop (subC (bodyC Try.f95) [1, 1, 0, 1, 0, 0])) (loopD z9u.xe z9v (loopC z4u))] (by kernel_rfl) ⟨zw5, trivial⟩) (by kernel_rfl) z1fd (fun x => by kernel_rfl)
def z1pj : Env := ⟨[(entQ zur zt6)], [], []⟩
theorem z1lo : EnvsOK Try.prog z1pj := ⟨z0o (z0q z14g) (z0x _), z0s _, z0t _⟩
def z18w : Shp := ⟨1, 0, [(0, .tu [.d .str, .d (.int .i64)])], []⟩
def z1dj : XS := .one .ret z18w.xe
theorem z1iv : z1dj.OK := XS.one_ok (z0c z18w)
def z11e (data : List Int) (n : Int) : Option (((List Int) × Int)) :=
 bif ltI n 0 then
 some (([] : List Int), 4)
 else
 bif ltI 200 n then
 some (([] : List Int), 4)
 else
 z0u (List.length data) (
 (zo6 (W64 (n - (List.length data : Nat)))).bind fun r =>
 catG data r fun _ =>
 bif subOk 0 n (List.length (data ++ r)) then
 some (subL (data ++ r) 0 n, 0)
 else none)
def z1e1 : Sig := ⟨92, [.d .str, .d (.int .i64)], [], 0, z1dj⟩
def z1ai (x : (List Int) × Int) : Option (((List Int) × Int)) := z11e x.1 x.2
theorem z1mg : FnOK Try.prog z1e1 z1ai :=
 fn_ok z1lo (h := .no) Try.func92 (z0p [] (by kernel_rfl) trivial) (by kernel_rfl) z1iv (fun x => by kernel_rfl)
def z1le : Env := ⟨[(entQ zur zt6)], [], []⟩
theorem z1gb : EnvsOK Try.prog z1le := ⟨z0o (z0q z14g) (z0x _), z0s _, z0t _⟩
def zzw : Shp := ⟨1, 0, [(0, .tu [.d .str, .d (.int .i64)])], []⟩
def z17g : XS := .one .ret zzw.xe
theorem z1fs : z17g.OK := XS.one_ok (z0c zzw)
def ztb (data : List Int) (off : Int) (t2 : List Int) : Option (((List Int) × Int)) :=
 bif ltI off 0 then
 some (([] : List Int), 4)
 else
 bif ltI 200 off then
 some (([] : List Int), 4)
 else
 z0u (List.length data) (
 bif ltI 200 (List.length data : Nat) then
 some (([] : List Int), 4)
 else
 z0u (List.length t2) (
 bif ltI 200 (W64 (off + (List.length t2 : Nat))) then
 some (([] : List Int), 4)
 else
 z0u (List.length t2) (
 z0u (List.length data) (
 (zo6 (W64 ((W64 (off + (List.length t2 : Nat))) - (List.length data : Nat)))).bind fun r =>
 catG data r fun _ =>
 bif subOk 0 off (List.length (data ++ r)) then
 catG (subL (data ++ r) 0 off) t2 fun _ =>
 z0u (List.length t2) (
 bif subOk (W64 (off + (List.length t2 : Nat))) (List.length (data ++ r) : Nat) (List.length (data ++ r)) then
 catG ((subL (data ++ r) 0 off) ++ t2) (subL (data ++ r) (W64 (off + (List.length t2 : Nat))) (List.length (data ++ r) : Nat)) fun _ =>
 some ((((subL (data ++ r) 0 off) ++ t2) ++ (subL (data ++ r) (W64 (off + (List.length t2 : Nat))) (List.length (data ++ r) : Nat)), 0))
 else none)
 else none))))
def z18s : Sig := ⟨93, [.d .str, .d (.int .i64), .d .str], [], 0, z17g⟩
def z15k (x : (List Int) × Int × (List Int)) : Option (((List Int) × Int)) := ztb x.1 x.2.1 x.2.2
theorem z1jc : FnOK Try.prog z18s z15k :=
 fn_ok z1gb (h := .no) Try.func93 (z0p [] (by kernel_rfl) trivial) (by kernel_rfl) z1fs (fun x => by kernel_rfl)
def z10k : Shp := ⟨1, 0, [(0, .d .str)], []⟩
def z18e : XS := .one .ret z10k.xe
theorem zyr : z18e.OK := XS.one_ok (z0c z10k)
def zjv : Sig := ⟨78, [.d c3, .d c0], [], 0, z18e⟩
def z1lm (self : (List T1) × T0 → Option (((List Int)))) : Env := ⟨[(entQ z1b0 z17z), (entQ zjv self), (entQ z1e1 z1ai), (entQ z18s z15k)], [], []⟩
theorem z1hv {self : (List T1) × T0 → Option (((List Int)))} (hself : FnOK Try.prog zjv self) : EnvsOK Try.prog (z1lm self) := ⟨z0o (z0q z1ln) (z0o (z0q hself) (z0o (z0q z1mg) (z0o (z0q z1jc) (z0x _)))), z0s _, z0t _⟩
def zm1 : Shp := ⟨56, 0, [(5, .pt 0 r8 []), (7, .d .str)], [.var 67 (.d c9)]⟩
def zgs : XS := .one .normal zm1.xe
theorem zwg : zgs.OK := XS.one_ok (z0c zm1)
def zom (self : (List T1) × T0 → Option (((List Int)))) (l : List T1) (x : T0) : Option (((List Int))) :=
 (zwc l x).bind fun r =>
 bif !r.2 then
 some ([] : List Int)
 else
 bif eqI r.1.2.2.1 5 then
 some r.1.2.2.2.2.2.2.2.2.2.1
 else
 (show Option (((List Int) × T1)) from
 z0u (List.length r.1.2.2.2.2.2.2.2.1) (
 bif ltI 0 (List.length r.1.2.2.2.2.2.2.2.1 : Nat) then
 (idxI r.1.2.2.2.2.2.2.2.1 0).bind fun x2 =>
 (self (l, x2)).bind fun r2 =>
 some (r2, r.1)
 else
 some (([] : List Int), r.1))).bind fun j =>
 bif eqI j.2.2.2.1 4 then
 (z11e j.1 j.2.2.2.2.2.2.2.2.2.1).bind fun r3 =>
 some r3.1
 else
 (ztb j.1 j.2.2.2.2.2.2.2.2.2.1 j.2.2.2.2.2.2.2.2.2.2.1).bind fun r4 =>
 some r4.1
def zjj (self : (List T1) × T0 → Option (((List Int)))) (x : (List T1) × T0) : Option (((List Int))) := zom self x.1 x.2
def zml : ((List T1) × T0) → Option (((List Int))) := recC zjj
def z11k (l : List T1) (x : T0) : Option (((List Int))) := zml (l, x)
theorem z14j : FnOK Try.prog zjv zml :=
 z1xy (by kernel_rfl) zyr (fun self hself => fn_ok (z1hv hself) (h := (.two .no (.two .no (.two .no (.two .no (.two .no (.join (fun _ => zgs) .no .no))))))) Try.func78 (z0p [.xs (fun _ => zgs)] (by kernel_rfl) ⟨(z2j zwg), trivial⟩) (by kernel_rfl) zyr (fun x => by kernel_rfl))
def z1mu : Env := ⟨[], [], []⟩
theorem z12o : EnvsOK Try.prog z1mu := ⟨z0x _, z0s _, z0t _⟩
def z11b : Shp := ⟨33, 0, [(0, .d c10), (3, .pt 0 r2 [])], [.var 43 (.d c0)]⟩
def z10g : Shp := ⟨33, 0, [(4, .d .str), (5, .d (.int .i64))], []⟩
def zuv : XS := .or .normal z11b.xe (.one .ret z10g.xe)
theorem z1em : zuv.OK := XS.or_ok (z0c z11b) (XS.one_ok (z0c z10g))
def zlz : Shp := ⟨33, 0, [], []⟩
def zlf : Shp := ⟨33, 0, [(4, .d .str), (5, .d (.int .i64))], []⟩
def zaq : XS := .or (.exit 0) zlz.xe (.one .ret zlf.xe)
theorem zwd : zaq.OK := XS.or_ok (z0c zlz) (XS.one_ok (z0c zlf))
def zaj : Shp := ⟨33, 0, [(0, .d c10), (3, .pt 0 r2 []), (6, .d (.int .i64))], [.var 43 (.d c0)]⟩
abbrev zhi := (List T3) × Int × T0
abbrev zo7 := (Unit) ⊕ ((List Int) × Int)
def zhg (l : List T3) (i : Int) (id : T0) : Option (zhi ⊕ zo7) :=
 z0u (List.length l) (
 bif ltI i (List.length l : Nat) then
 (idxI l i).bind fun x =>
 bif eqU c0 x.1 id then
 (idxI l i).bind fun x2 =>
 some (.inr (.inr (x2.2.1, 0)))
 else
 some (.inl (l, W64 (i + 1), id))
 else
 some (.inr (.inl ())))
def z4c (s : zhi) : Option (zhi ⊕ zo7) := zhg s.1 s.2.1 s.2.2
theorem zz4 : SoundD Try.prog (.loop (subC (bodyC Try.f60) [1, 1, 0, 1, 0, 0])) (loopD zaj.xe zaq (loopC z4c)) :=
 z0w (S := zaj.xe) (X := zaq) z12o (h := .no) (z0p [] (by kernel_rfl) trivial) (z0c zaj) zwd z4c (fun s => by kernel_rfl)
def z14b : Shp := ⟨1, 0, [(0, .tu [.d .str, .d (.int .i64)])], []⟩
def z1b7 : XS := .one .ret z14b.xe
theorem z1i5 : z1b7.OK := XS.one_ok (z0c z14b)
def zrb (l : List T3) (id : T0) : Option (((List Int) × Int)) :=
 (show Option (((List T3) × T0) ⊕ ((List Int) × Int)) from
 bif eqI id.1 0 then
 bif eqI id.2 0 then
 some (.inr (([] : List Int), 0))
 else
 some (.inl (l, id))
 else
 some (.inl (l, id))).bind fun j =>
 Sum.elim (fun y =>
 (loopC z4c (y.1, 0, y.2)).bind fun o =>
 Sum.elim (fun y3 =>
 some (([] : List Int), 2)) (fun y4 =>
 some (y4.1, y4.2)) o) (fun y2 =>
 some (y2.1, y2.2)) j
def zxl : Sig := ⟨60, [.d c10, .d c0], [], 0, z1b7⟩
def zuw (x : (List T3) × T0) : Option (((List Int) × Int)) := zrb x.1 x.2
theorem z18f : FnOK Try.prog zxl zuw :=
 fn_ok z12o (h := (.two .no (.join (fun _ => zuv) .no (.two (.two .no (.over (loopD zaj.xe zaq (loopC z4c)))) .no)))) Try.func60 (z0p [.xs (fun _ => zuv), .den (.loop (subC (bodyC Try.f60) [1, 1, 0, 1, 0, 0])) (loopD zaj.xe zaq (loopC z4c))] (by kernel_rfl) ⟨(z2j z1em), zz4, trivial⟩) (by kernel_rfl) z1i5 (fun x => by kernel_rfl)
def z1pe : Env := ⟨[], [], []⟩
theorem z17t : EnvsOK Try.prog z1pe := ⟨z0x _, z0s _, z0t _⟩
def zpt : Shp := ⟨19, 0, [], []⟩
def zpj : Shp := ⟨19, 0, [(4, .d .bool)], []⟩
def zcc : XS := .or (.exit 0) zpt.xe (.one .ret zpj.xe)
theorem z12c : zcc.OK := XS.or_ok (z0c zpt) (XS.one_ok (z0c zpj))
def zcl : Shp := ⟨19, 0, [(0, .d c10), (3, .pt 0 r2 []), (5, .d (.int .i64))], [.var 43 (.d c0)]⟩
abbrev zk6 := (List T3) × Int × T0
abbrev zs4 := (Unit) ⊕ (Bool)
def zka (l : List T3) (i : Int) (id : T0) : Option (zk6 ⊕ zs4) :=
 z0u (List.length l) (
 bif ltI i (List.length l : Nat) then
 (idxI l i).bind fun x =>
 bif eqU c0 x.1 id then
 some (.inr (.inr true))
 else
 some (.inl (l, W64 (i + 1), id))
 else
 some (.inr (.inl ())))
def z7t (s : zk6) : Option (zk6 ⊕ zs4) := zka s.1 s.2.1 s.2.2
theorem z13v : SoundD Try.prog (.loop (subC (bodyC Try.f94) [1, 0, 1, 0, 0])) (loopD zcl.xe zcc (loopC z7t)) :=
 z0w (S := zcl.xe) (X := zcc) z17t (h := .no) (z0p [] (by kernel_rfl) trivial) (z0c zcl) z12c z7t (fun s => by kernel_rfl)
def z18p : Shp := ⟨1, 0, [(0, .d .bool)], []⟩
def z1dv : XS := .one .ret z18p.xe
theorem z1j7 : z1dv.OK := XS.one_ok (z0c z18p)
def ztu (l : List T3) (id : T0) : Option ((Bool)) :=
 (loopC z7t (l, 0, id)).bind fun o =>
 Sum.elim (fun y =>
 some false) (fun y2 =>
 some y2) o
def z1ej : Sig := ⟨94, [.d c10, .d c0], [], 0, z1dv⟩
def z19u (x : (List T3) × T0) : Option ((Bool)) := ztu x.1 x.2
theorem z1o8 : FnOK Try.prog z1ej z19u :=
 fn_ok z17t (h := (.two .no (.two (.two .no (.over (loopD zcl.xe zcc (loopC z7t)))) .no))) Try.func94 (z0p [.den (.loop (subC (bodyC Try.f94) [1, 0, 1, 0, 0])) (loopD zcl.xe zcc (loopC z7t))] (by kernel_rfl) ⟨z13v, trivial⟩) (by kernel_rfl) z1j7 (fun x => by kernel_rfl)
def z1ov : Env := ⟨[(entQ zxl zuw), (entQ z1ej z19u), (entQ zba za5), (entQ z8r z7e)], [], []⟩
theorem zot : EnvsOK Try.prog z1ov := ⟨z0o (z0q z18f) (z0o (z0q z1o8) (z0o (z0q zbx) (z0o (z0q z9c) (z0x _)))), z0s _, z0t _⟩
def zpg : Shp := ⟨118, 0, [(0, .d c10), (1, .d c4), (5, .pt 0 r12 [])], [.var 85 (.d c11)]⟩
def zpa : Shp := ⟨118, 0, [(6, .d c10), (7, .d (.int .i64))], []⟩
def zci : XS := .or (.exit 0) zpg.xe (.one .ret zpa.xe)
theorem z12g : zci.OK := XS.or_ok (z0c zpg) (XS.one_ok (z0c zpa))
def zcm : Shp := ⟨118, 0, [(0, .d c10), (1, .d c4), (5, .pt 0 r12 []), (8, .d (.int .i64))], [.var 85 (.d c11)]⟩
abbrev zke := (List T3) × (List T0) × Int × T3
abbrev zsb := ((List T3) × (List T0) × T3) ⊕ ((List T3) × Int)
def zs7 (l : List T3) (base : List T0) (i : Int) (v : T3) : Option (zke ⊕ zsb) :=
 z0u (List.length base) (
 bif ltI i (List.length base : Nat) then
 (idxI base i).bind fun x =>
 (zrb l x).bind fun r =>
 bif neI r.2 0 then
 some (.inr (.inr ([], 2)))
 else
 (idxI base i).bind fun x2 =>
 bif eqI x2.1 0 then
 (idxI base i).bind fun x3 =>
 bif eqI x3.2 0 then
 (idxI base i).bind fun x4 =>
 (ztu l x4).bind fun r2 =>
 bif !r2 then
 some (.inr (.inr ([], 2)))
 else
 some (.inl (l, base, W64 (i + 1), v))
 else
 some (.inl (l, base, W64 (i + 1), v))
 else
 some (.inl (l, base, W64 (i + 1), v))
 else
 some (.inr (.inl (l, base, v))))
def z7q (s : zke) : Option (zke ⊕ zsb) := zs7 s.1 s.2.1 s.2.2.1 s.2.2.2
theorem z15d : SoundD Try.prog (.loop (subC (bodyC Try.f79) [1, 0, 1, 0, 0])) (loopD zcm.xe zci (loopC z7q)) :=
 z0w (S := zcm.xe) (X := zci) zot (h := .no) (z0p [] (by kernel_rfl) trivial) (z0c zcm) z12g z7q (fun s => by kernel_rfl)
def zd9 : Shp := ⟨118, 0, [(0, .d c10), (1, .d c4), (5, .pt 0 r12 []), (11, .wn 1 c11), (12, .d .bool), (13, .d (.int .i64))], [.var 85 (.d c11), .row 85 c11]⟩
def za2 : XS := .one .normal zd9.xe
theorem zkr : za2.OK := XS.one_ok (z0c zd9)
def zcj : Shp := ⟨118, 0, [(0, .d c10), (1, .d c4), (5, .pt 0 r12 []), (11, .wn 1 c11), (12, .d .bool), (13, .d (.int .i64)), (79, .d .bool)], [.var 85 (.d c11), .row 85 c11]⟩
def z8y : XS := .one .normal zcj.xe
theorem zjz : z8y.OK := XS.one_ok (z0c zcj)
def z9d : Shp := ⟨118, 0, [(0, .d c10), (1, .d c4), (5, .pt 0 r12 []), (11, .wn 1 c11), (12, .d .bool), (13, .d (.int .i64)), (14, .pt 2 r12 [])], [.var 85 (.d c11), .row 85 c11, .var 85 (.d c11)]⟩
def z2d : XS := .one (.exit 4) z9d.xe
theorem zf9 : z2d.OK := XS.one_ok (z0c z9d)
def z2f : Shp := ⟨118, 0, [(0, .d c10), (1, .d c4), (5, .pt 0 r12 []), (11, .wn 1 c11), (12, .d .bool), (13, .d (.int .i64)), (14, .pt 2 r12 []), (15, .d (.int .i64))], [.var 85 (.d c11), .row 85 c11, .var 85 (.d c11)]⟩
abbrev z4x := (List T3) × (List T0) × Bool × Int × Int × T3 × (List T3) × T3
abbrev za4 := ((List T3) × (List T0) × Bool × Int × T3 × (List T3) × T3)
def za3 (l : List T3) (base : List T0) (put : Bool) (i : Int) (k : Int) (v : T3) (out : List T3) (x : T3) : Option (z4x ⊕ za4) :=
 z0u (List.length base) (
 bif ltI k (List.length base : Nat) then
 (idxI base k).bind fun x2 =>
 bif eqU c0 x2 x.1 then
 (z9j x.2.2 v.1).bind fun r =>
 bif Nat.beq (List.length out) (List.length out) then
 some (.inl (l, base, put, i, W64 (k + 1), v, out, (x.1, x.2.1, r)))
 else none
 else
 bif Nat.beq (List.length out) (List.length out) then
 some (.inl (l, base, put, i, W64 (k + 1), v, out, x))
 else none
 else
 bif Nat.beq (List.length out) (List.length out) then
 some (.inr (l, base, put, i, v, out, x))
 else none)
def z1j (s : z4x) : Option (z4x ⊕ za4) := za3 s.1 s.2.1 s.2.2.1 s.2.2.2.1 s.2.2.2.2.1 s.2.2.2.2.2.1 s.2.2.2.2.2.2.1 s.2.2.2.2.2.2.2
theorem zfg : SoundD Try.prog (.loop (subC (bodyC Try.f79) [1, 1, 1, 1, 1, 0, 1, 0, 0, 1, 0, 0, 1, 1, 0, 1, 0, 0])) (loopD z2f.xe z2d (loopC z1j)) :=
 z0w (S := z2f.xe) (X := z2d) zot (h := .no) (z0p [] (by kernel_rfl) trivial) (z0c z2f) zf9 z1j (fun s => by kernel_rfl)
def zho : Shp := ⟨118, 0, [(5, .pt 0 r12 []), (11, .wn 1 c11), (12, .d .bool)], [.var 85 (.d c11), .row 85 c11]⟩
def z6q : XS := .one (.exit 2) zho.xe
theorem zqd : z6q.OK := XS.one_ok (z0c zho)
def z6m : Shp := ⟨118, 0, [(0, .d c10), (1, .d c4), (5, .pt 0 r12 []), (11, .wn 1 c11), (12, .d .bool), (13, .d (.int .i64))], [.var 85 (.d c11), .row 85 c11]⟩
abbrev zde := (List T3) × (List T0) × Bool × Int × T3 × (List T3)
abbrev ziq := (Bool × T3 × (List T3))
def zd8 (l : List T3) (base : List T0) (put : Bool) (i : Int) (v : T3) (out : List T3) : Option (zde ⊕ ziq) :=
 z0u (List.length l) (
 bif ltI i (List.length l : Nat) then
 (show Option (((List T3) × (List T0) × Bool × Int × T3 × (List T3))) from
 (show Option (((List T3) × (List T0) × Bool × Int × Bool × T3 × (List T3))) from
 bif !put then
 (idxI l i).bind fun x =>
 (zas v.1 x.1).bind fun r =>
 bif Nat.beq (List.length out) (List.length out) then
 some (l, base, put, i, r, v, out)
 else none
 else
 bif Nat.beq (List.length out) (List.length out) then
 some (l, base, put, i, false, v, out)
 else none).bind fun j =>
 bif j.2.2.2.2.1 then
 bif Nat.beq (List.length j.2.2.2.2.2.2) (List.length j.2.2.2.2.2.2) then
 appG (List.length j.2.2.2.2.2.2) (List.length ([j.2.2.2.2.2.1] : List T3)) 64 fun _ =>
 bif Nat.beq (List.length (j.2.2.2.2.2.2 ++ ([j.2.2.2.2.2.1] : List T3))) (List.length (j.2.2.2.2.2.2 ++ ([j.2.2.2.2.2.1] : List T3))) then
 some (j.1, j.2.1, true, j.2.2.2.1, j.2.2.2.2.2.1, j.2.2.2.2.2.2 ++ ([j.2.2.2.2.2.1] : List T3))
 else none
 else none
 else
 bif Nat.beq (List.length j.2.2.2.2.2.2) (List.length j.2.2.2.2.2.2) then
 some (j.1, j.2.1, j.2.2.1, j.2.2.2.1, j.2.2.2.2.2.1, j.2.2.2.2.2.2)
 else none).bind fun j2 =>
 (idxI j2.1 j2.2.2.2.1).bind fun x2 =>
 bif Nat.beq (List.length j2.2.2.2.2.2) (List.length j2.2.2.2.2.2) then
 (loopC z1j (j2.1, j2.2.1, j2.2.2.1, j2.2.2.2.1, 0, j2.2.2.2.2.1, j2.2.2.2.2.2, x2)).bind fun o =>
 bif Nat.beq (List.length o.2.2.2.2.2.1) (List.length o.2.2.2.2.2.1) then
 appG (List.length o.2.2.2.2.2.1) (List.length ([o.2.2.2.2.2.2] : List T3)) 64 fun _ =>
 bif Nat.beq (List.length (o.2.2.2.2.2.1 ++ ([o.2.2.2.2.2.2] : List T3))) (List.length (o.2.2.2.2.2.1 ++ ([o.2.2.2.2.2.2] : List T3))) then
 some (.inl (o.1, o.2.1, o.2.2.1, W64 (o.2.2.2.1 + 1), o.2.2.2.2.1, o.2.2.2.2.2.1 ++ ([o.2.2.2.2.2.2] : List T3)))
 else none
 else none
 else none
 else
 bif Nat.beq (List.length out) (List.length out) then
 some (.inr (put, v, out))
 else none)
def z3e (s : zde) : Option (zde ⊕ ziq) := zd8 s.1 s.2.1 s.2.2.1 s.2.2.2.1 s.2.2.2.2.1 s.2.2.2.2.2
theorem zry : SoundD Try.prog (.loop (subC (bodyC Try.f79) [1, 1, 1, 1, 1, 0, 1, 0, 0])) (loopD z6m.xe z6q (loopC z3e)) :=
 z0w (S := z6m.xe) (X := z6q) zot (h := (.two .no (.two (.join (fun _ => za2) (.join (fun _ => z8y) .no .no) (.two .no (.two (.two .no (.over (loopD z2f.xe z2d (loopC z1j)))) .no))) .no))) (z0p [.xs (fun _ => za2), .xs (fun _ => z8y), .den (.loop (subC (bodyC Try.f79) [1, 1, 1, 1, 1, 0, 1, 0, 0, 1, 0, 0, 1, 1, 0, 1, 0, 0])) (loopD z2f.xe z2d (loopC z1j))] (by kernel_rfl) ⟨(z2j zkr), (z2j zjz), zfg, trivial⟩) (z0c z6m) zqd z3e (fun s => by kernel_rfl)
def z18v : Shp := ⟨1, 0, [(0, .tu [.d c10, .d (.int .i64)])], []⟩
def z1dx : XS := .one .ret z18v.xe
theorem z1ii : z1dx.OK := XS.one_ok (z0c z18v)
def ztn (l : List T3) (base : List T0) (v : T3) : Option (((List T3) × Int)) :=
 (loopC z7q (l, base, 0, v)).bind fun o =>
 Sum.elim (fun y =>
 (ztu y.1 y.2.2.1).bind fun r =>
 bif r then
 some ([], 11)
 else
 bif Nat.beq 0 (List.length ([] : List T3)) then
 (loopC z3e (y.1, y.2.1, false, 0, y.2.2, ([] : List T3))).bind fun o2 =>
 bif !o2.1 then
 bif Nat.beq (List.length o2.2.2) (List.length o2.2.2) then
 appG (List.length o2.2.2) (List.length ([o2.2.1] : List T3)) 64 fun _ =>
 winK (o2.2.2 ++ ([o2.2.1] : List T3)) 0 (List.length (o2.2.2 ++ ([o2.2.1] : List T3))) fun w =>
 some (w, 0)
 else none
 else
 winK o2.2.2 0 (List.length o2.2.2) fun w2 =>
 some (w2, 0)
 else none) (fun y2 =>
 some (y2.1, y2.2)) o
def z12f : Sig := ⟨79, [.d c10, .d c4, .d c11], [], 0, z1dx⟩
def zz5 (x : (List T3) × (List T0) × T3) : Option (((List T3) × Int)) := ztn x.1 x.2.1 x.2.2
theorem z1a0 : FnOK Try.prog z12f zz5 :=
 fn_ok zot (h := (.two .no (.two (.two .no (.over (loopD zcm.xe zci (loopC z7q)))) (.two .no (.two .no (.two .no (.two (.two .no (.over (loopD z6m.xe z6q (loopC z3e)))) .no))))))) Try.func79 (z0p [.den (.loop (subC (bodyC Try.f79) [1, 0, 1, 0, 0])) (loopD zcm.xe zci (loopC z7q)), .den (.loop (subC (bodyC Try.f79) [1, 1, 1, 1, 1, 0, 1, 0, 0])) (loopD z6m.xe z6q (loopC z3e))] (by kernel_rfl) ⟨z15d, zry, trivial⟩) (by kernel_rfl) z1ii (fun x => by kernel_rfl)
def z1fc : Env := ⟨[(entQ zso zqc), (entQ zjv zml), (entQ zqm zo0), (entQ z8r z7e), (entQ z12f zz5)], [], []⟩
theorem zl1 : EnvsOK Try.prog z1fc := ⟨z0o (z0q zzn) (z0o (z0q z14j) (z0o (z0q ztd) (z0o (z0q z9c) (z0o (z0q z1a0) (z0x _))))), z0s _, z0t _⟩
def z6x : Shp := ⟨89, 0, [(0, .d c3), (3, .pt 0 r2 []), (5, .d c10), (6, .d (.int .i64)), (7, .pt 1 r12 []), (8, .d (.int .i64)), (22, .d c3), (23, .d (.int .i64)), (24, .rf (.d c9)), (25, .rf (.d c0)), (26, .d c0), (27, .d c0), (28, .d .bool), (72, .d .bool)], [.var 43 (.d c0), .var 85 (.d c11)]⟩
def z3o : XS := .one .normal z6x.xe
theorem zdn : z3o.OK := XS.one_ok (z0c z6x)
def z9q : Shp := ⟨89, 0, [(0, .d c3), (3, .pt 0 r2 []), (5, .d c10), (6, .d (.int .i64)), (7, .pt 1 r12 []), (22, .d c3), (23, .d (.int .i64)), (24, .rf (.d c9)), (25, .rf (.d c0)), (26, .d c0), (27, .d c0), (28, .d .bool)], [.var 43 (.d c0), .var 85 (.d c11)]⟩
def z2h : XS := .one (.exit 2) z9q.xe
theorem zff : z2h.OK := XS.one_ok (z0c z9q)
def z2i : Shp := ⟨89, 0, [(0, .d c3), (3, .pt 0 r2 []), (5, .d c10), (6, .d (.int .i64)), (7, .pt 1 r12 []), (8, .d (.int .i64)), (22, .d c3), (23, .d (.int .i64)), (24, .rf (.d c9)), (25, .rf (.d c0)), (26, .d c0), (27, .d c0), (28, .d .bool)], [.var 43 (.d c0), .var 85 (.d c11)]⟩
abbrev z5b := (List T1) × (List T3) × Int × Int × (List T1) × Int × T1 × T0 × T0 × T0 × Bool × T0 × T3
abbrev zag := ((List T1) × (List T3) × Int × (List T1) × Int × T1 × T0 × T0 × T0 × Bool × T0 × T3)
def z4z (l : List T1) (out : List T3) (i : Int) (k : Int) (t22 : List T1) (t23 : Int) (t24 : T1) (t25 : T0) (t26 : T0) (t27 : T0) (t28 : Bool) (obj : T0) (v : T3) : Option (z5b ⊕ zag) :=
 z0u (List.length l) (
 bif ltI k (List.length l : Nat) then
 (show Option (((List T1) × (List T3) × Int × Int × (List T1) × Int × T1 × T0 × T0 × T0 × Bool × Bool × T0 × T3)) from
 (idxI l k).bind fun x =>
 (zfb x).bind fun r =>
 bif r then
 (idxI l k).bind fun x2 =>
 bif eqU c0 x2.2.2.2.1 obj then
 (idxI l k).bind fun x3 =>
 (zhj x3.2.2.2.2.2.2.2.1 v.1).bind fun r2 =>
 some (l, out, i, k, t22, t23, t24, t25, t26, t27, t28, r2, obj, v)
 else
 some (l, out, i, k, t22, t23, t24, t25, t26, t27, t28, false, obj, v)
 else
 some (l, out, i, k, t22, t23, t24, t25, t26, t27, t28, false, obj, v)).bind fun j =>
 bif j.2.2.2.2.2.2.2.2.2.2.2.1 then
 (idxI j.1 j.2.2.2.1).bind fun x4 =>
 (z9j j.2.2.2.2.2.2.2.2.2.2.2.2.2.2.2 x4.1).bind fun r3 =>
 some (.inl (j.1, j.2.1, j.2.2.1, W64 (j.2.2.2.1 + 1), j.2.2.2.2.1, j.2.2.2.2.2.1, j.2.2.2.2.2.2.1, j.2.2.2.2.2.2.2.1, j.2.2.2.2.2.2.2.2.1, j.2.2.2.2.2.2.2.2.2.1, j.2.2.2.2.2.2.2.2.2.2.1, j.2.2.2.2.2.2.2.2.2.2.2.2.1, (j.2.2.2.2.2.2.2.2.2.2.2.2.2.1, j.2.2.2.2.2.2.2.2.2.2.2.2.2.2.1, r3)))
 else
 some (.inl (j.1, j.2.1, j.2.2.1, W64 (j.2.2.2.1 + 1), j.2.2.2.2.1, j.2.2.2.2.2.1, j.2.2.2.2.2.2.1, j.2.2.2.2.2.2.2.1, j.2.2.2.2.2.2.2.2.1, j.2.2.2.2.2.2.2.2.2.1, j.2.2.2.2.2.2.2.2.2.2.1, j.2.2.2.2.2.2.2.2.2.2.2.2.1, j.2.2.2.2.2.2.2.2.2.2.2.2.2))
 else
 some (.inr (l, out, i, t22, t23, t24, t25, t26, t27, t28, obj, v)))
def z1g (s : z5b) : Option (z5b ⊕ zag) := z4z s.1 s.2.1 s.2.2.1 s.2.2.2.1 s.2.2.2.2.1 s.2.2.2.2.2.1 s.2.2.2.2.2.2.1 s.2.2.2.2.2.2.2.1 s.2.2.2.2.2.2.2.2.1 s.2.2.2.2.2.2.2.2.2.1 s.2.2.2.2.2.2.2.2.2.2.1 s.2.2.2.2.2.2.2.2.2.2.2.1 s.2.2.2.2.2.2.2.2.2.2.2.2
theorem zfi : SoundD Try.prog (.loop (subC (bodyC Try.f55) [1, 1, 0, 1, 0, 0, 1, 0, 0, 1, 1, 0, 1, 0, 0])) (loopD z2i.xe z2h (loopC z1g)) :=
 z0w (S := z2i.xe) (X := z2h) zl1 (h := (.two .no (.two (.join (fun _ => z3o) .no .no) .no))) (z0p [.xs (fun _ => z3o)] (by kernel_rfl) ⟨(z2j zdn), trivial⟩) (z0c z2i) zff z1g (fun s => by kernel_rfl)
def zht : Shp := ⟨89, 0, [(5, .d c10)], []⟩
def z7a : XS := .one (.exit 0) zht.xe
theorem zru : z7a.OK := XS.one_ok (z0c zht)
def z7f : Shp := ⟨89, 0, [(0, .d c3), (3, .pt 0 r2 []), (5, .d c10), (6, .d (.int .i64))], [.var 43 (.d c0)]⟩
abbrev zdz := (List T1) × (List T3) × Int × T0
abbrev zjs := ((List T3))
def ze3 (l : List T1) (out : List T3) (i : Int) (obj : T0) : Option (zdz ⊕ zjs) :=
 z0u (List.length l) (
 bif ltI i (List.length l : Nat) then
 (idxI l i).bind fun x =>
 (zfb x).bind fun r =>
 bif !r then
 some (.inl (l, out, W64 (i + 1), obj))
 else
 (idxI l i).bind fun x2 =>
 bif !(eqU c0 x2.2.2.2.1 obj) then
 some (.inl (l, out, W64 (i + 1), obj))
 else
 (idxI l i).bind fun x3 =>
 (idxI l i).bind fun x4 =>
 (z11k l x4.1).bind fun r2 =>
 (loopC z1g (l, out, i, 0, l, i, x2, x2.2.2.2.1, x2.2.2.2.1, obj, !(eqU c0 x2.2.2.2.1 obj), obj, (x3.1, r2, List.replicate 8 (0 : Int)))).bind fun o =>
 (ztn o.2.1 [] o.2.2.2.2.2.2.2.2.2.2.2).bind fun r3 =>
 some (.inl (o.1, r3.1, W64 (o.2.2.1 + 1), o.2.2.2.2.2.2.2.2.2.2.1))
 else
 some (.inr out))
def z3k (s : zdz) : Option (zdz ⊕ zjs) := ze3 s.1 s.2.1 s.2.2.1 s.2.2.2
theorem zss : SoundD Try.prog (.loop (subC (bodyC Try.f55) [1, 1, 0, 1, 0, 0])) (loopD z7f.xe z7a (loopC z3k)) :=
 z0w (S := z7f.xe) (X := z7a) zl1 (h := (.two .no (.two (.two .no (.two .no (.two (.two .no (.over (loopD z2i.xe z2h (loopC z1g)))) .no))) .no))) (z0p [.den (.loop (subC (bodyC Try.f55) [1, 1, 0, 1, 0, 0, 1, 0, 0, 1, 1, 0, 1, 0, 0])) (loopD z2i.xe z2h (loopC z1g))] (by kernel_rfl) ⟨zfi, trivial⟩) (z0c z7f) zru z3k (fun s => by kernel_rfl)
def zu0 : Shp := ⟨1, 0, [(0, .d c10)], []⟩
def zxk : XS := .one .ret zu0.xe
theorem z19f : zxk.OK := XS.one_ok (z0c zu0)
def zma (l : List T1) (obj : T0) : Option (((List T3))) :=
 (loopC z3k (l, [], 0, obj)).bind fun o =>
 some o
def zxx : Sig := ⟨55, [.d c3, .d c0], [], 0, zxk⟩
def zvd (x : (List T1) × T0) : Option (((List T3))) := zma x.1 x.2
theorem z1d8 : FnOK Try.prog zxx zvd :=
 fn_ok zl1 (h := (.two .no (.two .no (.two (.two .no (.over (loopD z7f.xe z7a (loopC z3k)))) .no)))) Try.func55 (z0p [.den (.loop (subC (bodyC Try.f55) [1, 1, 0, 1, 0, 0])) (loopD z7f.xe z7a (loopC z3k))] (by kernel_rfl) ⟨zss, trivial⟩) (by kernel_rfl) z19f (fun x => by kernel_rfl)
def z1iz : Env := ⟨[(entQ zxx zvd), (entQ zba za5), (entQ z8r z7e), (entQ zi2 zfv)], [], []⟩
theorem zxy : EnvsOK Try.prog z1iz := ⟨z0o (z0q z1d8) (z0o (z0q zbx) (z0o (z0q z9c) (z0o (z0q zjk) (z0x _)))), z0s _, z0t _⟩
def zdq : Shp := ⟨85, 0, [(0, .d c3), (3, .pt 0 r8 []), (4, .pt 1 r13 []), (5, .pt 2 r13 []), (6, .d (.int .i64))], [.var 67 (.d c9), .var 49 (.d c14), .var 49 (.d c14)]⟩
def za7 : XS := .one .normal zdq.xe
theorem zm0 : za7.OK := XS.one_ok (z0c zdq)
def zd0 : Shp := ⟨85, 0, [(0, .d c3), (3, .pt 0 r8 []), (4, .pt 1 r13 []), (5, .pt 2 r13 []), (6, .d (.int .i64)), (50, .d .bool)], [.var 67 (.d c9), .var 49 (.d c14), .var 49 (.d c14)]⟩
def z9f : XS := .one .normal zd0.xe
theorem zk7 : z9f.OK := XS.one_ok (z0c zd0)
def zju : Shp := ⟨85, 0, [(4, .pt 0 r13 []), (5, .pt 1 r13 [])], [.var 49 (.d c14), .var 49 (.d c14)]⟩
def z8m : XS := .one (.exit 0) zju.xe
theorem ztk : z8m.OK := XS.one_ok (z0c zju)
def z8w : Shp := ⟨85, 0, [(0, .d c3), (3, .pt 0 r8 []), (4, .pt 1 r13 []), (5, .pt 2 r13 []), (6, .d (.int .i64))], [.var 67 (.d c9), .var 49 (.d c14), .var 49 (.d c14)]⟩
abbrev zez := (List T1) × Int × T1 × T4 × T4
abbrev zln := (T4 × T4)
def zey (l : List T1) (i : Int) (t3 : T1) (t4 : T4) (o : T4) : Option (zez ⊕ zln) :=
 z0u (List.length l) (
 bif ltI i (List.length l : Nat) then
 (idxI l i).bind fun x =>
 bif !(eqU c0 x.2.2.2.1 t3.1) then
 some (.inl (l, W64 (i + 1), t3, t4, o))
 else
 (show Option (((List T1) × Int × T1 × T4 × T4)) from
 (show Option (((List T1) × Int × Bool × T1 × T4 × T4)) from
 (idxI l i).bind fun x2 =>
 bif eqI x2.2.2.1 7 then
 (idxI l i).bind fun x3 =>
 (zas o.2.2.1 x3.1).bind fun r =>
 some (l, i, r, t3, t4, o)
 else
 some (l, i, false, t3, t4, o)).bind fun j =>
 bif j.2.2.1 then
 (idxI j.1 j.2.1).bind fun x4 =>
 (idxI j.1 j.2.1).bind fun x5 =>
 some (j.1, j.2.1, j.2.2.2.1, j.2.2.2.2.1, ((j.2.2.2.2.2.1, j.2.2.2.2.2.2.1, x4.1, j.2.2.2.2.2.2.2.2).1, (j.2.2.2.2.2.1, j.2.2.2.2.2.2.1, x4.1, j.2.2.2.2.2.2.2.2).2.1, (j.2.2.2.2.2.1, j.2.2.2.2.2.2.1, x4.1, j.2.2.2.2.2.2.2.2).2.2.1, x5.2.2.2.2.2.1, (j.2.2.2.2.2.1, j.2.2.2.2.2.2.1, x4.1, j.2.2.2.2.2.2.2.2).2.2.2.2))
 else
 some (j.1, j.2.1, j.2.2.2.1, j.2.2.2.2.1, j.2.2.2.2.2)).bind fun j2 =>
 (idxI j2.1 j2.2.1).bind fun x6 =>
 bif eqI x6.2.2.1 6 then
 (idxI j2.1 j2.2.1).bind fun x7 =>
 (idxI j2.1 j2.2.1).bind fun x8 =>
 (z9j x7.2.1 x8.1).bind fun r2 =>
 (zgd j2.2.2.2.2.2.2.2.2.1 r2).bind fun r3 =>
 some (.inl (j2.1, W64 (j2.2.1 + 1), j2.2.2.1, j2.2.2.2.1, (j2.2.2.2.2.1, j2.2.2.2.2.2.1, j2.2.2.2.2.2.2.1, j2.2.2.2.2.2.2.2.1, r3, j2.2.2.2.2.2.2.2.2.2)))
 else
 some (.inl (j2.1, W64 (j2.2.1 + 1), j2.2.2.1, j2.2.2.2.1, j2.2.2.2.2))
 else
 some (.inr (t4, o)))
def z4i (s : zez) : Option (zez ⊕ zln) := zey s.1 s.2.1 s.2.2.1 s.2.2.2.1 s.2.2.2.2
theorem zv5 : SoundD Try.prog (.loop (subC (bodyC Try.f30) [1, 1, 0, 1, 0, 0])) (loopD z8w.xe z8m (loopC z4i)) :=
 z0w (S := z8w.xe) (X := z8m) zxy (h := (.two .no (.two (.two .no (.join (fun _ => za7) (.join (fun _ => z9f) .no .no) .no)) .no))) (z0p [.xs (fun _ => za7), .xs (fun _ => z9f)] (by kernel_rfl) ⟨(z2j zm0), (z2j zk7), trivial⟩) (z0c z8w) ztk z4i (fun s => by kernel_rfl)
def zyg : Shp := ⟨1, 0, [(0, .d c14)], []⟩
def z14k : XS := .one .ret zyg.xe
theorem z1db : z14k.OK := XS.one_ok (z0c zyg)
def zqs (l : List T1) (t1 : T1) : Option ((T4)) :=
 (zma l t1.1).bind fun r =>
 (loopC z4i (l, 0, t1, ((0, 0), false, (0, 0), [], List.replicate 8 (0 : Int), []), (t1.1, eqI t1.2.2.1 2, t1.1, t1.2.2.2.2.2.1, List.replicate 8 (0 : Int), r))).bind fun o =>
 some o.2
def z12y : Sig := ⟨30, [.d c3, .d c9], [], 0, z14k⟩
def z10t (x : (List T1) × T1) : Option ((T4)) := zqs x.1 x.2
theorem z1i9 : FnOK Try.prog z12y z10t :=
 fn_ok zxy (h := (.two .no (.two .no (.two (.two .no (.over (loopD z8w.xe z8m (loopC z4i)))) .no)))) Try.func30 (z0p [.den (.loop (subC (bodyC Try.f30) [1, 1, 0, 1, 0, 0])) (loopD z8w.xe z8m (loopC z4i))] (by kernel_rfl) ⟨zv5, trivial⟩) (by kernel_rfl) z1db (fun x => by kernel_rfl)
def z1oo : Env := ⟨[], [], []⟩
theorem z17d : EnvsOK Try.prog z1oo := ⟨z0x _, z0s _, z0t _⟩
def zpy : Shp := ⟨17, 0, [], []⟩
def zpq : Shp := ⟨17, 0, [(4, .d (.int .u32))], []⟩
def zcg : XS := .or (.exit 0) zpy.xe (.one .ret zpq.xe)
theorem z11m : zcg.OK := XS.or_ok (z0c zpy) (XS.one_ok (z0c zpq))
def zce : Shp := ⟨17, 0, [(1, .d (.int .i64)), (2, .pt 0 (.one (.arr 8 .leaf)) []), (5, .d (.int .i64))], [.var 25 (.d c1)]⟩
abbrev zkb := Int × Int × (List Int)
abbrev zs8 := (Unit) ⊕ (Int)
def zk8 (rep : Int) (i : Int) (v : List Int) : Option (zkb ⊕ zs8) :=
 bif ltI i 8 then
 bif eqI (W64 (i + 1)) rep then
 bif inI i 8 then
 (v[i.toNat]?).bind fun x =>
 some (.inr (.inr x))
 else none
 else
 some (.inl (rep, W64 (i + 1), v))
 else
 some (.inr (.inl ()))
def z7r (s : zkb) : Option (zkb ⊕ zs8) := zk8 s.1 s.2.1 s.2.2
theorem z13y : SoundD Try.prog (.loop (subC (bodyC Try.f32) [1, 0, 1, 0, 0])) (loopD zce.xe zcg (loopC z7r)) :=
 z0w (S := zce.xe) (X := zcg) z17d (h := .no) (z0p [] (by kernel_rfl) trivial) (z0c zce) z11m z7r (fun s => by kernel_rfl)
def z18q : Shp := ⟨1, 0, [(0, .d (.int .u32))], []⟩
def z1ei : XS := .one .ret z18q.xe
theorem z1j1 : z1ei.OK := XS.one_ok (z0c z18q)
def zll (v : List Int) (rep : Int) : Option ((Int)) :=
 (loopC z7r (rep, 0, v)).bind fun o =>
 Sum.elim (fun y =>
 some 0) (fun y2 =>
 some y2) o
def zoi : Sig := ⟨32, [.d c1, .d (.int .i64)], [], 0, z1ei⟩
def zkw (x : (List Int) × Int) : Option ((Int)) := zll x.1 x.2
theorem zr9 : FnOK Try.prog zoi zkw :=
 fn_ok z17d (h := (.two .no (.two (.two .no (.over (loopD zce.xe zcg (loopC z7r)))) .no))) Try.func32 (z0p [.den (.loop (subC (bodyC Try.f32) [1, 0, 1, 0, 0])) (loopD zce.xe zcg (loopC z7r))] (by kernel_rfl) ⟨z13y, trivial⟩) (by kernel_rfl) z1j1 (fun x => by kernel_rfl)
def z1lj : Env := ⟨[(entQ zup zsq), (entQ zzy zyp), (entQ z12y z10t), (entQ zba za5), (entQ zoi zkw), (entQ z8r z7e)], [], []⟩
theorem zrp : EnvsOK Try.prog z1lj := ⟨z0o (z0q z14m) (z0o (z0q z1fq) (z0o (z0q z1i9) (z0o (z0q zbx) (z0o (z0q zr9) (z0o (z0q z9c) (z0x _)))))), z0s _, z0t _⟩
def zd4 : Shp := ⟨108, 0, [(0, .d c3), (2, .pt 0 r15 []), (3, .pt 1 r15 []), (4, .pt 2 (.one (.arr 8 .leaf)) []), (5, .d (.int .i64)), (6, .pt 3 r8 [])], [.var 33 (.ag [.d c1, .wn 4 c14, .wn 5 c6, .d c16, .d (.arr 8 .bool)]), .var 33 (.ag [.d c1, .wn 6 c14, .d c5, .d c16, .d (.arr 8 .bool)]), .var 25 (.d c1), .var 67 (.d c9), .row 49 c14, .row 45 c6, .row 49 c14]⟩
def z9y : XS := .one .normal zd4.xe
theorem zku : z9y.OK := XS.one_ok (z0c zd4)
def zcd : Shp := ⟨108, 0, [(0, .d c3), (2, .pt 0 r15 []), (3, .pt 1 r15 []), (4, .pt 2 (.one (.arr 8 .leaf)) []), (5, .d (.int .i64)), (6, .pt 3 r8 []), (33, .d .bool)], [.var 33 (.ag [.d c1, .wn 4 c14, .wn 5 c6, .d c16, .d (.arr 8 .bool)]), .var 33 (.ag [.d c1, .wn 6 c14, .d c5, .d c16, .d (.arr 8 .bool)]), .var 25 (.d c1), .var 67 (.d c9), .row 49 c14, .row 45 c6, .row 49 c14]⟩
def z9a : XS := .one .normal zcd.xe
theorem zjh : z9a.OK := XS.one_ok (z0c zcd)
def z7n : Shp := ⟨108, 0, [(0, .d c3), (2, .pt 0 r15 []), (3, .pt 1 r15 []), (4, .pt 2 (.one (.arr 8 .leaf)) []), (5, .d (.int .i64)), (6, .pt 3 r8 []), (7, .pt 4 r13 []), (8, .d (.int .i64))], [.var 33 (.ag [.d c1, .wn 5 c14, .wn 6 c6, .d c16, .d (.arr 8 .bool)]), .var 33 (.ag [.d c1, .wn 7 c14, .d c5, .d c16, .d (.arr 8 .bool)]), .var 25 (.d c1), .var 67 (.d c9), .var 49 (.d c14), .row 49 c14, .row 45 c6, .row 49 c14]⟩
def z1u : XS := .one (.exit 2) z7n.xe
theorem ze6 : z1u.OK := XS.one_ok (z0c z7n)
def z1t : Shp := ⟨108, 0, [(0, .d c3), (2, .pt 0 r15 []), (3, .pt 1 r15 []), (4, .pt 2 (.one (.arr 8 .leaf)) []), (5, .d (.int .i64)), (6, .pt 3 r8 []), (7, .pt 4 r13 []), (8, .d (.int .i64))], [.var 33 (.ag [.d c1, .wn 5 c14, .wn 6 c6, .d c16, .d (.arr 8 .bool)]), .var 33 (.ag [.d c1, .wn 7 c14, .d c5, .d c16, .d (.arr 8 .bool)]), .var 25 (.d c1), .var 67 (.d c9), .var 49 (.d c14), .row 49 c14, .row 45 c6, .row 49 c14]⟩
abbrev z4e := (List T1) × Int × Int × (List Int) × (List Int) × (List Bool) × (List Int) × (List T2) × (List Int) × (List Bool) × (List Int) × T1 × T4 × (List T4) × (List T2) × (List T4)
abbrev z8k := ((List T1) × Int × Int × (List Int) × (List Int) × (List Bool) × (List Int) × (List T2) × (List Int) × (List Bool) × (List Int) × T1 × T4 × (List T4) × (List T2) × (List T4))
def z4g (l : List T1) (i : Int) (k : Int) (t2 : List Int) (t22 : List Int) (t23 : List Bool) (t3 : List Int) (t32 : List T2) (t33 : List Int) (t34 : List Bool) (latest : List Int) (t6 : T1) (o : T4) (t24 : List T4) (t25 : List T2) (t35 : List T4) : Option (z4e ⊕ z8k) :=
 bif ltI 0 k then
 bif inI (W64 (k - 1)) (List.length t35) then
 (t35[(W64 (k - 1)).toNat]?).bind fun x =>
 (zas o.1 x.1).bind fun r =>
 bif r then
 bif Nat.beq (List.length t24) (List.length t24) then
 bif Nat.beq (List.length t25) (List.length t25) then
 bif Nat.beq (List.length t35) (List.length t35) then
 some (.inl (l, i, W64 (k - 1), t2, t22, t23, t3, t32, t33, t34, latest, t6, o, t24, t25, t35))
 else none
 else none
 else none
 else
 bif Nat.beq (List.length t24) (List.length t24) then
 bif Nat.beq (List.length t25) (List.length t25) then
 bif Nat.beq (List.length t35) (List.length t35) then
 some (.inr (l, i, k, t2, t22, t23, t3, t32, t33, t34, latest, t6, o, t24, t25, t35))
 else none
 else none
 else none
 else none
 else
 bif Nat.beq (List.length t24) (List.length t24) then
 bif Nat.beq (List.length t25) (List.length t25) then
 bif Nat.beq (List.length t35) (List.length t35) then
 some (.inr (l, i, k, t2, t22, t23, t3, t32, t33, t34, latest, t6, o, t24, t25, t35))
 else none
 else none
 else none
def z1b (s : z4e) : Option (z4e ⊕ z8k) := z4g s.1 s.2.1 s.2.2.1 s.2.2.2.1 s.2.2.2.2.1 s.2.2.2.2.2.1 s.2.2.2.2.2.2.1 s.2.2.2.2.2.2.2.1 s.2.2.2.2.2.2.2.2.1 s.2.2.2.2.2.2.2.2.2.1 s.2.2.2.2.2.2.2.2.2.2.1 s.2.2.2.2.2.2.2.2.2.2.2.1 s.2.2.2.2.2.2.2.2.2.2.2.2.1 s.2.2.2.2.2.2.2.2.2.2.2.2.2.1 s.2.2.2.2.2.2.2.2.2.2.2.2.2.2.1 s.2.2.2.2.2.2.2.2.2.2.2.2.2.2.2
theorem ze9 : SoundD Try.prog (.loop (subC (bodyC Try.f10) [1, 1, 1, 0, 1, 0, 0, 1, 0, 0, 1, 0, 1, 0, 1, 1, 0, 0, 0])) (loopD z1t.xe z1u (loopC z1b)) :=
 z0w (S := z1t.xe) (X := z1u) zrp (h := .no) (z0p [] (by kernel_rfl) trivial) (z0c z1t) ze6 z1b (fun s => by kernel_rfl)
def zcf : Shp := ⟨108, 0, [(0, .d c3), (2, .pt 0 r15 []), (3, .pt 1 r15 []), (4, .pt 2 (.one (.arr 8 .leaf)) []), (5, .d (.int .i64)), (6, .pt 3 r8 [])], [.var 33 (.ag [.d c1, .wn 4 c14, .wn 5 c6, .d c16, .d (.arr 8 .bool)]), .var 33 (.ag [.d c1, .wn 6 c14, .d c5, .d c16, .d (.arr 8 .bool)]), .var 25 (.d c1), .var 67 (.d c9), .row 49 c14, .row 45 c6, .row 49 c14]⟩
def z8s : XS := .one .normal zcf.xe
theorem zjw : z8s.OK := XS.one_ok (z0c zcf)
def zbn : Shp := ⟨108, 0, [(0, .d c3), (2, .pt 0 r15 []), (3, .pt 1 r15 []), (4, .pt 2 (.one (.arr 8 .leaf)) []), (5, .d (.int .i64)), (6, .pt 3 r8 []), (85, .d .bool)], [.var 33 (.ag [.d c1, .wn 4 c14, .wn 5 c6, .d c16, .d (.arr 8 .bool)]), .var 33 (.ag [.d c1, .wn 6 c14, .d c5, .d c16, .d (.arr 8 .bool)]), .var 25 (.d c1), .var 67 (.d c9), .row 49 c14, .row 45 c6, .row 49 c14]⟩
def z7v : XS := .one .normal zbn.xe
theorem zih : z7v.OK := XS.one_ok (z0c zbn)
def zij : Shp := ⟨108, 0, [(2, .pt 0 r15 []), (3, .pt 1 r15 [])], [.var 33 (.ag [.d c1, .wn 2 c14, .wn 3 c6, .d c16, .d (.arr 8 .bool)]), .var 33 (.ag [.d c1, .wn 4 c14, .d c5, .d c16, .d (.arr 8 .bool)]), .row 49 c14, .row 45 c6, .row 49 c14]⟩
def z8c : XS := .one (.exit 0) zij.xe
theorem zsj : z8c.OK := XS.one_ok (z0c zij)
def z8a : Shp := ⟨108, 0, [(0, .d c3), (2, .pt 0 r15 []), (3, .pt 1 r15 []), (4, .pt 2 (.one (.arr 8 .leaf)) []), (5, .d (.int .i64))], [.var 33 (.ag [.d c1, .wn 3 c14, .wn 4 c6, .d c16, .d (.arr 8 .bool)]), .var 33 (.ag [.d c1, .wn 5 c14, .d c5, .d c16, .d (.arr 8 .bool)]), .var 25 (.d c1), .row 49 c14, .row 45 c6, .row 49 c14]⟩
abbrev zeg := (List T1) × Int × (List Int) × (List Int) × (List Bool) × (List Int) × (List T2) × (List Int) × (List Bool) × (List Int) × (List T4) × (List T2) × (List T4)
abbrev zkl := ((List Int) × (List Int) × (List Bool) × (List Int) × (List T2) × (List Int) × (List Bool) × (List T4) × (List T2) × (List T4))
def zej (l : List T1) (i : Int) (t2 : List Int) (t22 : List Int) (t23 : List Bool) (t3 : List Int) (t32 : List T2) (t33 : List Int) (t34 : List Bool) (latest : List Int) (t24 : List T4) (t25 : List T2) (t35 : List T4) : Option (zeg ⊕ zkl) :=
 z0u (List.length l) (
 bif ltI i (List.length l : Nat) then
 (idxI l i).bind fun x =>
 (show Option (((List T1) × Int × (List Int) × (List Int) × (List Bool) × (List Int) × (List T2) × (List Int) × (List Bool) × (List Int) × T1 × (List T4) × (List T2) × (List T4))) from
 (show Option (((List T1) × Int × Bool × (List Int) × (List Int) × (List Bool) × (List Int) × (List T2) × (List Int) × (List Bool) × (List Int) × T1 × (List T4) × (List T2) × (List T4))) from
 bif eqI x.2.2.1 1 then
 bif Nat.beq (List.length t24) (List.length t24) then
 bif Nat.beq (List.length t25) (List.length t25) then
 bif Nat.beq (List.length t35) (List.length t35) then
 some (l, i, true, t2, t22, t23, t3, t32, t33, t34, latest, x, t24, t25, t35)
 else none
 else none
 else none
 else
 bif Nat.beq (List.length t24) (List.length t24) then
 bif Nat.beq (List.length t25) (List.length t25) then
 bif Nat.beq (List.length t35) (List.length t35) then
 some (l, i, eqI x.2.2.1 2, t2, t22, t23, t3, t32, t33, t34, latest, x, t24, t25, t35)
 else none
 else none
 else none).bind fun j =>
 bif j.2.2.1 then
 (zqs j.1 j.2.2.2.2.2.2.2.2.2.2.2.1).bind fun r =>
 z0u (List.length j.2.2.2.2.2.2.2.2.2.2.2.2.2.2) (
 bif Nat.beq (List.length j.2.2.2.2.2.2.2.2.2.2.2.2.1) (List.length j.2.2.2.2.2.2.2.2.2.2.2.2.1) then
 bif Nat.beq (List.length j.2.2.2.2.2.2.2.2.2.2.2.2.2.1) (List.length j.2.2.2.2.2.2.2.2.2.2.2.2.2.1) then
 bif Nat.beq (List.length j.2.2.2.2.2.2.2.2.2.2.2.2.2.2) (List.length j.2.2.2.2.2.2.2.2.2.2.2.2.2.2) then
 (loopC z1b (j.1, j.2.1, (List.length j.2.2.2.2.2.2.2.2.2.2.2.2.2.2 : Nat), j.2.2.2.1, j.2.2.2.2.1, j.2.2.2.2.2.1, j.2.2.2.2.2.2.1, j.2.2.2.2.2.2.2.1, j.2.2.2.2.2.2.2.2.1, j.2.2.2.2.2.2.2.2.2.1, j.2.2.2.2.2.2.2.2.2.2.1, j.2.2.2.2.2.2.2.2.2.2.2.1, r, j.2.2.2.2.2.2.2.2.2.2.2.2.1, j.2.2.2.2.2.2.2.2.2.2.2.2.2.1, j.2.2.2.2.2.2.2.2.2.2.2.2.2.2)).bind fun o =>
 bif subOk o.2.2.1 (List.length o.2.2.2.2.2.2.2.2.2.2.2.2.2.2.2 : Nat) (List.length o.2.2.2.2.2.2.2.2.2.2.2.2.2.2.2) then
 winK o.2.2.2.2.2.2.2.2.2.2.2.2.2.2.2 o.2.2.1.toNat ((List.length o.2.2.2.2.2.2.2.2.2.2.2.2.2.2.2) - o.2.2.1.toNat) fun w =>
 appG (List.length ([o.2.2.2.2.2.2.2.2.2.2.2.2.1] : List T4)) (List.length w) 112 fun _ =>
 bif subOk 0 o.2.2.1 (List.length o.2.2.2.2.2.2.2.2.2.2.2.2.2.2.2) then
 winK o.2.2.2.2.2.2.2.2.2.2.2.2.2.2.2 0 o.2.2.1.toNat fun w2 =>
 appG (List.length ([] : List T4)) (List.length w2) 112 fun _ =>
 bif Nat.beq (List.length w2) (List.length w2) then
 appG (List.length w2) (List.length (([o.2.2.2.2.2.2.2.2.2.2.2.2.1] : List T4) ++ w)) 112 fun _ =>
 bif Nat.beq (List.length o.2.2.2.2.2.2.2.2.2.2.2.2.2.1) (List.length o.2.2.2.2.2.2.2.2.2.2.2.2.2.1) then
 bif Nat.beq (List.length o.2.2.2.2.2.2.2.2.2.2.2.2.2.2.1) (List.length o.2.2.2.2.2.2.2.2.2.2.2.2.2.2.1) then
 bif Nat.beq (List.length (w2 ++ (([o.2.2.2.2.2.2.2.2.2.2.2.2.1] : List T4) ++ w))) (List.length (w2 ++ (([o.2.2.2.2.2.2.2.2.2.2.2.2.1] : List T4) ++ w))) then
 some (o.1, o.2.1, o.2.2.2.1, o.2.2.2.2.1, o.2.2.2.2.2.1, o.2.2.2.2.2.2.1, o.2.2.2.2.2.2.2.1, o.2.2.2.2.2.2.2.2.1, o.2.2.2.2.2.2.2.2.2.1, o.2.2.2.2.2.2.2.2.2.2.1, o.2.2.2.2.2.2.2.2.2.2.2.1, o.2.2.2.2.2.2.2.2.2.2.2.2.2.1, o.2.2.2.2.2.2.2.2.2.2.2.2.2.2.1, w2 ++ (([o.2.2.2.2.2.2.2.2.2.2.2.2.1] : List T4) ++ w))
 else none
 else none
 else none
 else none
 else none
 else none
 else none
 else none
 else none)
 else
 bif Nat.beq (List.length j.2.2.2.2.2.2.2.2.2.2.2.2.1) (List.length j.2.2.2.2.2.2.2.2.2.2.2.2.1) then
 bif Nat.beq (List.length j.2.2.2.2.2.2.2.2.2.2.2.2.2.1) (List.length j.2.2.2.2.2.2.2.2.2.2.2.2.2.1) then
 bif Nat.beq (List.length j.2.2.2.2.2.2.2.2.2.2.2.2.2.2) (List.length j.2.2.2.2.2.2.2.2.2.2.2.2.2.2) then
 some (j.1, j.2.1, j.2.2.2.1, j.2.2.2.2.1, j.2.2.2.2.2.1, j.2.2.2.2.2.2.1, j.2.2.2.2.2.2.2.1, j.2.2.2.2.2.2.2.2.1, j.2.2.2.2.2.2.2.2.2.1, j.2.2.2.2.2.2.2.2.2.2.1, j.2.2.2.2.2.2.2.2.2.2.2.1, j.2.2.2.2.2.2.2.2.2.2.2.2.1, j.2.2.2.2.2.2.2.2.2.2.2.2.2.1, j.2.2.2.2.2.2.2.2.2.2.2.2.2.2)
 else none
 else none
 else none).bind fun j2 =>
 (show Option (((List T1) × Int × (List Int) × (List Int) × (List Bool) × (List Int) × (List T2) × (List Int) × (List Bool) × (List Int) × T1 × (List T4) × (List T2) × (List T4))) from
 (show Option (((List T1) × Int × Bool × (List Int) × (List Int) × (List Bool) × (List Int) × (List T2) × (List Int) × (List Bool) × (List Int) × T1 × (List T4) × (List T2) × (List T4))) from
 bif eqI j2.2.2.2.2.2.2.2.2.2.2.1.2.2.1 8 then
 (zll j2.2.2.2.2.2.2.2.2.2.1 j2.2.2.2.2.2.2.2.2.2.2.1.1.1).bind fun r2 =>
 bif Nat.beq (List.length j2.2.2.2.2.2.2.2.2.2.2.2.1) (List.length j2.2.2.2.2.2.2.2.2.2.2.2.1) then
 bif Nat.beq (List.length j2.2.2.2.2.2.2.2.2.2.2.2.2.1) (List.length j2.2.2.2.2.2.2.2.2.2.2.2.2.1) then
 bif Nat.beq (List.length j2.2.2.2.2.2.2.2.2.2.2.2.2.2) (List.length j2.2.2.2.2.2.2.2.2.2.2.2.2.2) then
 some (j2.1, j2.2.1, ltI r2 j2.2.2.2.2.2.2.2.2.2.2.1.1.2, j2.2.2.1, j2.2.2.2.1, j2.2.2.2.2.1, j2.2.2.2.2.2.1, j2.2.2.2.2.2.2.1, j2.2.2.2.2.2.2.2.1, j2.2.2.2.2.2.2.2.2.1, j2.2.2.2.2.2.2.2.2.2.1, j2.2.2.2.2.2.2.2.2.2.2.1, j2.2.2.2.2.2.2.2.2.2.2.2.1, j2.2.2.2.2.2.2.2.2.2.2.2.2.1, j2.2.2.2.2.2.2.2.2.2.2.2.2.2)
 else none
 else none
 else none
 else
 bif Nat.beq (List.length j2.2.2.2.2.2.2.2.2.2.2.2.1) (List.length j2.2.2.2.2.2.2.2.2.2.2.2.1) then
 bif Nat.beq (List.length j2.2.2.2.2.2.2.2.2.2.2.2.2.1) (List.length j2.2.2.2.2.2.2.2.2.2.2.2.2.1) then
 bif Nat.beq (List.length j2.2.2.2.2.2.2.2.2.2.2.2.2.2) (List.length j2.2.2.2.2.2.2.2.2.2.2.2.2.2) then
 some (j2.1, j2.2.1, false, j2.2.2.1, j2.2.2.2.1, j2.2.2.2.2.1, j2.2.2.2.2.2.1, j2.2.2.2.2.2.2.1, j2.2.2.2.2.2.2.2.1, j2.2.2.2.2.2.2.2.2.1, j2.2.2.2.2.2.2.2.2.2.1, j2.2.2.2.2.2.2.2.2.2.2.1, j2.2.2.2.2.2.2.2.2.2.2.2.1, j2.2.2.2.2.2.2.2.2.2.2.2.2.1, j2.2.2.2.2.2.2.2.2.2.2.2.2.2)
 else none
 else none
 else none).bind fun j3 =>
 bif j3.2.2.1 then
 (z9j j3.2.2.2.2.2.2.2.2.2.2.1 j3.2.2.2.2.2.2.2.2.2.2.2.1.1).bind fun r3 =>
 bif inI (W64 (j3.2.2.2.2.2.2.2.2.2.2.2.1.1.1 - 1)) 8 then
 (j3.2.2.2.2.2.2.2.2.1[(W64 (j3.2.2.2.2.2.2.2.2.2.2.2.1.1.1 - 1)).toNat]?).bind fun _x =>
 bif Nat.beq (List.length j3.2.2.2.2.2.2.2.2.2.2.2.2.1) (List.length j3.2.2.2.2.2.2.2.2.2.2.2.2.1) then
 bif Nat.beq (List.length j3.2.2.2.2.2.2.2.2.2.2.2.2.2.1) (List.length j3.2.2.2.2.2.2.2.2.2.2.2.2.2.1) then
 bif Nat.beq (List.length j3.2.2.2.2.2.2.2.2.2.2.2.2.2.2) (List.length j3.2.2.2.2.2.2.2.2.2.2.2.2.2.2) then
 some ((j3.1, j3.2.1, j3.2.2.2.1, j3.2.2.2.2.1, j3.2.2.2.2.2.1, j3.2.2.2.2.2.2.1, j3.2.2.2.2.2.2.2.1, j3.2.2.2.2.2.2.2.2.1.set ((W64 (j3.2.2.2.2.2.2.2.2.2.2.2.1.1.1 - 1)).toNat) j3.2.2.2.2.2.2.2.2.2.2.2.1.2.2.2.2.2.2.2.2.2.2, j3.2.2.2.2.2.2.2.2.2.1, r3, j3.2.2.2.2.2.2.2.2.2.2.2.1, j3.2.2.2.2.2.2.2.2.2.2.2.2.1, j3.2.2.2.2.2.2.2.2.2.2.2.2.2.1, j3.2.2.2.2.2.2.2.2.2.2.2.2.2.2))
 else none
 else none
 else none
 else none
 else
 bif Nat.beq (List.length j3.2.2.2.2.2.2.2.2.2.2.2.2.1) (List.length j3.2.2.2.2.2.2.2.2.2.2.2.2.1) then
 bif Nat.beq (List.length j3.2.2.2.2.2.2.2.2.2.2.2.2.2.1) (List.length j3.2.2.2.2.2.2.2.2.2.2.2.2.2.1) then
 bif Nat.beq (List.length j3.2.2.2.2.2.2.2.2.2.2.2.2.2.2) (List.length j3.2.2.2.2.2.2.2.2.2.2.2.2.2.2) then
 some (j3.1, j3.2.1, j3.2.2.2.1, j3.2.2.2.2.1, j3.2.2.2.2.2.1, j3.2.2.2.2.2.2.1, j3.2.2.2.2.2.2.2.1, j3.2.2.2.2.2.2.2.2.1, j3.2.2.2.2.2.2.2.2.2.1, j3.2.2.2.2.2.2.2.2.2.2.1, j3.2.2.2.2.2.2.2.2.2.2.2.1, j3.2.2.2.2.2.2.2.2.2.2.2.2.1, j3.2.2.2.2.2.2.2.2.2.2.2.2.2.1, j3.2.2.2.2.2.2.2.2.2.2.2.2.2.2)
 else none
 else none
 else none).bind fun j4 =>
 bif eqI j4.2.2.2.2.2.2.2.2.2.2.1.2.2.1 9 then
 bif inI (W64 (j4.2.2.2.2.2.2.2.2.2.2.1.1.1 - 1)) 8 then
 (j4.2.2.2.2.2.2.2.2.1[(W64 (j4.2.2.2.2.2.2.2.2.2.2.1.1.1 - 1)).toNat]?).bind fun _x2 =>
 bif Nat.beq (List.length j4.2.2.2.2.2.2.2.2.2.2.2.1) (List.length j4.2.2.2.2.2.2.2.2.2.2.2.1) then
 bif Nat.beq (List.length j4.2.2.2.2.2.2.2.2.2.2.2.2.1) (List.length j4.2.2.2.2.2.2.2.2.2.2.2.2.1) then
 bif Nat.beq (List.length j4.2.2.2.2.2.2.2.2.2.2.2.2.2) (List.length j4.2.2.2.2.2.2.2.2.2.2.2.2.2) then
 some (.inl ((j4.1, W64 (j4.2.1 + 1), j4.2.2.1, j4.2.2.2.1, j4.2.2.2.2.1, j4.2.2.2.2.2.1, j4.2.2.2.2.2.2.1, j4.2.2.2.2.2.2.2.1, j4.2.2.2.2.2.2.2.2.1.set ((W64 (j4.2.2.2.2.2.2.2.2.2.2.1.1.1 - 1)).toNat) true, j4.2.2.2.2.2.2.2.2.2.1, j4.2.2.2.2.2.2.2.2.2.2.2.1, j4.2.2.2.2.2.2.2.2.2.2.2.2.1, j4.2.2.2.2.2.2.2.2.2.2.2.2.2)))
 else none
 else none
 else none
 else none
 else
 bif Nat.beq (List.length j4.2.2.2.2.2.2.2.2.2.2.2.1) (List.length j4.2.2.2.2.2.2.2.2.2.2.2.1) then
 bif Nat.beq (List.length j4.2.2.2.2.2.2.2.2.2.2.2.2.1) (List.length j4.2.2.2.2.2.2.2.2.2.2.2.2.1) then
 bif Nat.beq (List.length j4.2.2.2.2.2.2.2.2.2.2.2.2.2) (List.length j4.2.2.2.2.2.2.2.2.2.2.2.2.2) then
 some (.inl (j4.1, W64 (j4.2.1 + 1), j4.2.2.1, j4.2.2.2.1, j4.2.2.2.2.1, j4.2.2.2.2.2.1, j4.2.2.2.2.2.2.1, j4.2.2.2.2.2.2.2.1, j4.2.2.2.2.2.2.2.2.1, j4.2.2.2.2.2.2.2.2.2.1, j4.2.2.2.2.2.2.2.2.2.2.2.1, j4.2.2.2.2.2.2.2.2.2.2.2.2.1, j4.2.2.2.2.2.2.2.2.2.2.2.2.2))
 else none
 else none
 else none
 else
 bif Nat.beq (List.length t24) (List.length t24) then
 bif Nat.beq (List.length t25) (List.length t25) then
 bif Nat.beq (List.length t35) (List.length t35) then
 some (.inr (t2, t22, t23, t3, t32, t33, t34, t24, t25, t35))
 else none
 else none
 else none)
def z3u (s : zeg) : Option (zeg ⊕ zkl) := zej s.1 s.2.1 s.2.2.1 s.2.2.2.1 s.2.2.2.2.1 s.2.2.2.2.2.1 s.2.2.2.2.2.2.1 s.2.2.2.2.2.2.2.1 s.2.2.2.2.2.2.2.2.1 s.2.2.2.2.2.2.2.2.2.1 s.2.2.2.2.2.2.2.2.2.2.1 s.2.2.2.2.2.2.2.2.2.2.2.1 s.2.2.2.2.2.2.2.2.2.2.2.2
theorem zud : SoundD Try.prog (.loop (subC (bodyC Try.f10) [1, 1, 1, 0, 1, 0, 0])) (loopD z8a.xe z8c (loopC z3u)) :=
 z0w (S := z8a.xe) (X := z8c) zrp (h := (.two .no (.two (.two .no (.join (fun _ => z9y) (.join (fun _ => z9a) .no (.two (.two .no (.two .no (.two (.over (loopD z1t.xe z1u (loopC z1b))) (.two .no (.reg [5] []))))) .no)) (.join (fun _ => z8s) (.join (fun _ => z7v) .no .no) .no))) .no))) (z0p [.xs (fun _ => z9y), .xs (fun _ => z9a), .den (.loop (subC (bodyC Try.f10) [1, 1, 1, 0, 1, 0, 0, 1, 0, 0, 1, 0, 1, 0, 1, 1, 0, 0, 0])) (loopD z1t.xe z1u (loopC z1b)), .xs (fun _ => z8s), .xs (fun _ => z7v)] (by kernel_rfl) ⟨(z2j zku), (z2j zjh), ze9, (z2j zjw), (z2j zih), trivial⟩) (z0c z8a) zsj z3u (fun s => by kernel_rfl)
def z10b : Shp := ⟨1, 0, [(0, .d c17)], []⟩
def z17p : XS := .one .ret z10b.xe
theorem z1f0 : z17p.OK := XS.one_ok (z0c z10b)
def zem (l : List T1) : Option ((T5)) :=
 (zo5 l).bind fun r =>
 (zdx l).bind fun r2 =>
 bif Nat.beq 0 (List.length ([] : List T4)) then
 bif Nat.beq 0 (List.length ([] : List T2)) then
 bif Nat.beq 0 (List.length ([] : List T4)) then
 (loopC z3u (l, 0, List.replicate 8 (0 : Int), List.replicate 8 (0 : Int), List.replicate 8 false, r, r2, List.replicate 8 (0 : Int), List.replicate 8 false, List.replicate 8 (0 : Int), ([] : List T4), ([] : List T2), ([] : List T4))).bind fun o =>
 winK o.2.2.2.2.2.2.2.2.2 0 (List.length o.2.2.2.2.2.2.2.2.2) fun w =>
 some (o.2.2.2.1, w, o.2.2.2.2.1, o.2.2.2.2.2.1, o.2.2.2.2.2.2.1)
 else none
 else none
 else none
def zv4 : Sig := ⟨10, [.d c3], [], 0, z17p⟩
def zsp (x : (List T1)) : Option ((T5)) := zem x
theorem z15i : FnOK Try.prog zv4 zsp :=
 fn_ok zrp (h := (.two .no (.two .no (.two .no (.two (.two .no (.over (loopD z8a.xe z8c (loopC z3u)))) .no))))) Try.func10 (z0p [.den (.loop (subC (bodyC Try.f10) [1, 1, 1, 0, 1, 0, 0])) (loopD z8a.xe z8c (loopC z3u))] (by kernel_rfl) ⟨zud, trivial⟩) (by kernel_rfl) z1f0 (fun x => by kernel_rfl)
def z1ep : Env := ⟨[], [], []⟩
theorem z1c2 : EnvsOK Try.prog z1ep := ⟨z0x _, z0s _, z0t _⟩
def zuc : Shp := ⟨1, 0, [(0, .wn 0 c6)], [.row 45 c6]⟩
def zxa : XS := .one .ret zuc.xe
theorem z19e : zxa.OK := XS.one_ok (z0c zuc)
def zmi (t0 : List T2) : Option (((List T2))) :=
 nilK (List.length t0) fun q =>
 bif q then
 bif Nat.beq 0 (List.length ([] : List T2)) then
 some ([] : List T2)
 else none
 else
 appG (List.length ([] : List T2)) (List.length t0) 96 fun _ =>
 bif Nat.beq (List.length t0) (List.length t0) then
 some t0
 else none
def zxi : Sig := ⟨61, [.d c5], [], 0, zxa⟩
def zvk (x : (List T2)) : Option (((List T2))) := zmi x
theorem z1cw : FnOK Try.prog zxi zvk :=
 fn_ok z1c2 (h := (.two .no (.two .no (.two (.reg [2] []) .no)))) Try.func61 (z0p [] (by kernel_rfl) trivial) (by kernel_rfl) z19e (fun x => by kernel_rfl)
def z1fz : Env := ⟨[], [], []⟩
theorem z1av : EnvsOK Try.prog z1fz := ⟨z0x _, z0s _, z0t _⟩
def ztl : Shp := ⟨1, 0, [(0, .wn 0 c11)], [.row 85 c11]⟩
def zyo : XS := .one .ret ztl.xe
theorem z18z : zyo.OK := XS.one_ok (z0c ztl)
def zic (t0 : List T3) : Option (((List T3))) :=
 nilK (List.length t0) fun q =>
 bif q then
 bif Nat.beq 0 (List.length ([] : List T3)) then
 some ([] : List T3)
 else none
 else
 appG (List.length ([] : List T3)) (List.length t0) 64 fun _ =>
 bif Nat.beq (List.length t0) (List.length t0) then
 some t0
 else none
def zp0 : Sig := ⟨62, [.d c10], [], 0, zyo⟩
def zn9 (x : (List T3)) : Option (((List T3))) := zic x
theorem zvn : FnOK Try.prog zp0 zn9 :=
 fn_ok z1av (h := (.two .no (.two .no (.two (.reg [2] []) .no)))) Try.func62 (z0p [] (by kernel_rfl) trivial) (by kernel_rfl) z18z (fun x => by kernel_rfl)
def z1lx : Env := ⟨[], [], []⟩
theorem z14y : EnvsOK Try.prog z1lx := ⟨z0x _, z0s _, z0t _⟩
def znt : Shp := ⟨22, 0, [], []⟩
def zo2 : Shp := ⟨22, 0, [(4, .d .bool)], []⟩
def zby : XS := .or (.exit 0) znt.xe (.one .ret zo2.xe)
theorem zzb : zby.OK := XS.or_ok (z0c znt) (XS.one_ok (z0c zo2))
def zbl : Shp := ⟨22, 0, [(3, .pt 0 (.one (.arr 8 .leaf)) []), (7, .d c1), (8, .d (.int .i64))], [.var 25 (.d c1)]⟩
abbrev zj4 := (List Int) × Int × (List Int)
abbrev zqf := (Unit) ⊕ (Bool)
def ziz (t7 : List Int) (t8 : Int) (base : List Int) : Option (zj4 ⊕ zqf) :=
 bif ltI t8 8 then
 (idxI t7 t8).bind fun x =>
 bif ltI 0 x then
 bif inI t8 8 then
 (base[t8.toNat]?).bind fun x2 =>
 bif leI x x2 then
 some (.inr (.inr true))
 else
 some (.inl (t7, W64 (t8 + 1), base))
 else none
 else
 some (.inl (t7, W64 (t8 + 1), base))
 else
 some (.inr (.inl ()))
def z4w (s : zj4) : Option (zj4 ⊕ zqf) := ziz s.1 s.2.1 s.2.2
theorem z12e : SoundD Try.prog (.loop (subC (bodyC Try.f65) [1, 0, 1, 0, 0])) (loopD zbl.xe zby (loopC z4w)) :=
 z0w (S := zbl.xe) (X := zby) z14y (h := .no) (z0p [] (by kernel_rfl) trivial) (z0c zbl) zzb z4w (fun s => by kernel_rfl)
def z13k : Shp := ⟨1, 0, [(0, .d .bool)], []⟩
def z1at : XS := .one .ret z13k.xe
theorem z1i6 : z1at.OK := XS.one_ok (z0c z13k)
def zr3 (t0 : List Int) (base : List Int) : Option ((Bool)) :=
 (loopC z4w (t0, 0, base)).bind fun o =>
 Sum.elim (fun y =>
 some false) (fun y2 =>
 some y2) o
def zxv : Sig := ⟨65, [.d c1, .d c1], [], 0, z1at⟩
def zuy (x : (List Int) × (List Int)) : Option ((Bool)) := zr3 x.1 x.2
theorem z18d : FnOK Try.prog zxv zuy :=
 fn_ok z14y (h := (.two .no (.two (.two .no (.over (loopD zbl.xe zby (loopC z4w)))) .no))) Try.func65 (z0p [.den (.loop (subC (bodyC Try.f65) [1, 0, 1, 0, 0])) (loopD zbl.xe zby (loopC z4w))] (by kernel_rfl) ⟨z12e, trivial⟩) (by kernel_rfl) z1i6 (fun x => by kernel_rfl)
def z1ha : Env := ⟨[(entQ zxv zuy)], [], []⟩
theorem z1da : EnvsOK Try.prog z1ha := ⟨z0o (z0q z18d) (z0x _), z0s _, z0t _⟩
def zvj : Shp := ⟨1, 0, [(0, .d .bool)], []⟩
def z10n : XS := .one .ret zvj.xe
theorem z1b3 : z10n.OK := XS.one_ok (z0c zvj)
def ze1 (x : T2) (t1 : List Int) : Option ((Bool)) :=
 (zr3 x.2.2.2.2 t1).bind fun r =>
 some r
def zra : Sig := ⟨64, [.d c6, .rf (.d c1)], [], 0, z10n⟩
def zoz (x : T2 × (List Int)) : Option ((Bool)) := ze1 x.1 x.2
theorem zyt : FnOK Try.prog zra zoz :=
 fn_ok z1da (h := .no) Try.func64 (z0p [] (by kernel_rfl) trivial) (by kernel_rfl) z1b3 (fun x => by kernel_rfl)
def z1bv : Env := ⟨[(entQ zra zoz)], [], []⟩
theorem zq5 : EnvsOK Try.prog z1bv := ⟨z0o (z0q zyt) (z0x _), z0s _, z0t _⟩
def zhx : Shp := ⟨19, 0, [], []⟩
def zi1 : Shp := ⟨19, 0, [(4, .d (.int .i64))], []⟩
def z7c : XS := .or (.exit 0) zhx.xe (.one .ret zi1.xe)
theorem zrw : z7c.OK := XS.or_ok (z0c zhx) (XS.one_ok (z0c zi1))
def z7g : Shp := ⟨19, 0, [(0, .d c5), (1, .fn 64 [.rf (.d c1)]), (7, .d (.int .i64)), (8, .d (.int .i64))], []⟩
abbrev ze4 := (List T2) × (List Int) × Int × Int
abbrev zji := (Unit) ⊕ (Int)
def ze0 (t0 : List T2) (f : List Int) (t7 : Int) (t8 : Int) : Option (ze4 ⊕ zji) :=
 bif ltI t8 t7 then
 (idxI t0 t8).bind fun x =>
 (ze1 x f).bind fun r =>
 bif r then
 some (.inr (.inr t8))
 else
 some (.inl (t0, f, t7, W64 (t8 + 1)))
 else
 some (.inr (.inl ()))
def z2u (s : ze4) : Option (ze4 ⊕ zji) := ze0 s.1 s.2.1 s.2.2.1 s.2.2.2
theorem zsk : SoundD Try.prog (.loop (subC (bodyC Try.f85) [1, 0, 1, 0, 0])) (loopD z7g.xe z7c (loopC z2u)) :=
 z0w (S := z7g.xe) (X := z7c) zq5 (h := .no) (z0p [] (by kernel_rfl) trivial) (z0c z7g) zrw z2u (fun s => by kernel_rfl)
def zq7 : Shp := ⟨1, 0, [(0, .d (.int .i64))], []⟩
def zu5 : XS := .one .ret zq7.xe
theorem z13u : zu5.OK := XS.one_ok (z0c zq7)
def ziv (t0 : List T2) (f : List Int) : Option ((Int)) :=
 z0u (List.length t0) (
 (loopC z2u (t0, f, (List.length t0 : Nat), 0)).bind fun o =>
 Sum.elim (fun y =>
 some (-1)) (fun y2 =>
 some y2) o)
def zu7 : Sig := ⟨85, [.d c5, .fn 64 [.rf (.d c1)]], [], 0, zu5⟩
def zs3 (x : (List T2) × (List Int)) : Option ((Int)) := ziv x.1 x.2
theorem z18y : FnOK Try.prog zu7 zs3 :=
 fn_ok zq5 (h := (.two .no (.two (.two .no (.over (loopD z7g.xe z7c (loopC z2u)))) .no))) Try.func85 (z0p [.den (.loop (subC (bodyC Try.f85) [1, 0, 1, 0, 0])) (loopD z7g.xe z7c (loopC z2u))] (by kernel_rfl) ⟨zsk, trivial⟩) (by kernel_rfl) z13u (fun x => by kernel_rfl)
def z12u : Env := ⟨[(entQ zu7 zs3), (entQ zra zoz)], [], []⟩
theorem zn2 : EnvsOK Try.prog z12u := ⟨z0o (z0q z18y) (z0o (z0q zyt) (z0x _)), z0s _, z0t _⟩
def zdt : Shp := ⟨42, 2, [(0, .wn 0 c6), (5, .d (.int .i64))], [.row 45 c6, .var 25 (.d c1)]⟩
def z4b : XS := .one (.exit 0) zdt.xe
theorem zm3 : z4b.OK := XS.one_ok (z0c zdt)
def z3y : Shp := ⟨42, 2, [(0, .wn 0 c6), (1, .fn 64 [.pt 1 (.one (.arr 8 .leaf)) []]), (5, .d (.int .i64)), (6, .d (.int .i64))], [.row 45 c6, .var 25 (.d c1)]⟩
abbrev zap := Int × Int × (List T2) × (List Int)
abbrev zep := (Int × (List T2) × (List Int))
def zai (i : Int) (j : Int) (t0 : List T2) (del : List Int) : Option (zap ⊕ zep) :=
 z0u (List.length t0) (
 bif ltI j (List.length t0 : Nat) then
 bif inI j (List.length t0) then
 (t0[j.toNat]?).bind fun x =>
 (ze1 x del).bind fun r =>
 bif !r then
 bif inI i (List.length t0) then
 (t0[i.toNat]?).bind fun _x =>
 bif Nat.beq (List.length t0) (List.length (t0.set i.toNat x)) then
 some (.inl (W64 (i + 1), W64 (j + 1), t0.set i.toNat x, del))
 else none
 else none
 else
 bif Nat.beq (List.length t0) (List.length t0) then
 some (.inl (i, W64 (j + 1), t0, del))
 else none
 else none
 else
 bif Nat.beq (List.length t0) (List.length t0) then
 some (.inr (i, t0, del))
 else none)
def z1q (s : zap) : Option (zap ⊕ zep) := zai s.1 s.2.1 s.2.2.1 s.2.2.2
theorem zme : SoundD Try.prog (.loop (subC (bodyC Try.f63) [1, 1, 1, 0, 1, 0, 0])) (loopD z3y.xe z4b (loopC z1q)) :=
 z0w (S := z3y.xe) (X := z4b) zn2 (h := .no) (z0p [] (by kernel_rfl) trivial) (z0c z3y) zm3 z1q (fun s => by kernel_rfl)
def zmz : Shp := ⟨1, 2, [(0, .ws 0 c6)], [.row 45 c6, .var 25 (.d c1)]⟩
def zpn : XS := .one .ret zmz.xe
theorem zxn : zpn.OK := XS.one_ok (z0c zmz)
def zfe (t0 : List T2) (del : List Int) : Option (((List Bool) × (List T2) × (List Int))) :=
 winK t0 0 (List.length t0) fun w =>
 (ziv w del).bind fun r =>
 bif eqI r (-1) then
 some ((List.replicate (List.length t0) true), t0, del)
 else
 bif Nat.beq (List.length t0) (List.length t0) then
 (loopC z1q (r, W64 (r + 1), t0, del)).bind fun o =>
 bif subOk o.1 (List.length o.2.1 : Nat) (List.length o.2.1) then
 bif Nat.ble (addN o.1.toNat ((List.length o.2.1) - o.1.toNat)) (List.length o.2.1) then
 bif subOk 0 o.1 (List.length o.2.1) then
 some (((List.replicate o.1.toNat true), cpyL o.2.1 o.1.toNat ((List.length o.2.1) - o.1.toNat) (List.replicate ((List.length o.2.1) - o.1.toNat) (((0 : Int), (0 : Int)), ((0 : Int), (0 : Int)), ([] : List Int), ((0 : Int), (0 : Int)), List.replicate 8 (0 : Int))), o.2.2))
 else none
 else none
 else none
 else none
def zpp : Sig := ⟨63, [.wn 0 c6, .fn 64 [.pt 1 (.one (.arr 8 .leaf)) []]], [.row 45 c6, .var 25 (.d c1)], 2, zpn⟩
def znv (x : (List T2) × (List Int)) : Option (((List Bool) × (List T2) × (List Int))) := zfe x.1 x.2
theorem z11t : FnOK Try.prog zpp znv :=
 fn_ok zn2 (h := (.two .no (.two .no (.two .no (.two (.two .no (.over (loopD z3y.xe z4b (loopC z1q)))) .no))))) Try.func63 (z0p [.den (.loop (subC (bodyC Try.f63) [1, 1, 1, 0, 1, 0, 0])) (loopD z3y.xe z4b (loopC z1q))] (by kernel_rfl) ⟨zme, trivial⟩) (by kernel_rfl) zxn (fun x => by kernel_rfl)
def z1d0 : Env := ⟨[(entQ zxv zuy)], [], []⟩
theorem z19c : EnvsOK Try.prog z1d0 := ⟨z0o (z0q z18d) (z0x _), z0s _, z0t _⟩
def zs1 : Shp := ⟨1, 0, [(0, .d .bool)], []⟩
def zvq : XS := .one .ret zs1.xe
theorem z16f : zvq.OK := XS.one_ok (z0c zs1)
def zbs (v : T3) (t1 : List Int) : Option ((Bool)) :=
 (zr3 v.2.2 t1).bind fun r =>
 some r
def zne : Sig := ⟨67, [.d c11, .rf (.d c1)], [], 0, zvq⟩
def zl7 (x : T3 × (List Int)) : Option ((Bool)) := zbs x.1 x.2
theorem zue : FnOK Try.prog zne zl7 :=
 fn_ok z19c (h := .no) Try.func67 (z0p [] (by kernel_rfl) trivial) (by kernel_rfl) z16f (fun x => by kernel_rfl)
def z15o : Env := ⟨[(entQ zne zl7)], [], []⟩
theorem znr : EnvsOK Try.prog z15o := ⟨z0o (z0q zue) (z0x _), z0s _, z0t _⟩
def zfz : Shp := ⟨19, 0, [], []⟩
def zg4 : Shp := ⟨19, 0, [(4, .d (.int .i64))], []⟩
def z5x : XS := .or (.exit 0) zfz.xe (.one .ret zg4.xe)
theorem zpz : z5x.OK := XS.or_ok (z0c zfz) (XS.one_ok (z0c zg4))
def z5s : Shp := ⟨19, 0, [(0, .d c10), (1, .fn 67 [.rf (.d c1)]), (7, .d (.int .i64)), (8, .d (.int .i64))], []⟩
abbrev zct := (List T3) × (List Int) × Int × Int
abbrev zia := (Unit) ⊕ (Int)
def zcr (t0 : List T3) (f : List Int) (t7 : Int) (t8 : Int) : Option (zct ⊕ zia) :=
 bif ltI t8 t7 then
 (idxI t0 t8).bind fun x =>
 (zbs x f).bind fun r =>
 bif r then
 some (.inr (.inr t8))
 else
 some (.inl (t0, f, t7, W64 (t8 + 1)))
 else
 some (.inr (.inl ()))
def z2m (s : zct) : Option (zct ⊕ zia) := zcr s.1 s.2.1 s.2.2.1 s.2.2.2
theorem zrh : SoundD Try.prog (.loop (subC (bodyC Try.f86) [1, 0, 1, 0, 0])) (loopD z5s.xe z5x (loopC z2m)) :=
 z0w (S := z5s.xe) (X := z5x) znr (h := .no) (z0p [] (by kernel_rfl) trivial) (z0c z5s) zpz z2m (fun s => by kernel_rfl)
def znn : Shp := ⟨1, 0, [(0, .d (.int .i64))], []⟩
def zq6 : XS := .one .ret znn.xe
theorem zzh : zq6.OK := XS.one_ok (z0c znn)
def zgn (t0 : List T3) (f : List Int) : Option ((Int)) :=
 z0u (List.length t0) (
 (loopC z2m (t0, f, (List.length t0 : Nat), 0)).bind fun o =>
 Sum.elim (fun y =>
 some (-1)) (fun y2 =>
 some y2) o)
def zrc : Sig := ⟨86, [.d c10, .fn 67 [.rf (.d c1)]], [], 0, zq6⟩
def zp7 (x : (List T3) × (List Int)) : Option ((Int)) := zgn x.1 x.2
theorem z12z : FnOK Try.prog zrc zp7 :=
 fn_ok znr (h := (.two .no (.two (.two .no (.over (loopD z5s.xe z5x (loopC z2m)))) .no))) Try.func86 (z0p [.den (.loop (subC (bodyC Try.f86) [1, 0, 1, 0, 0])) (loopD z5s.xe z5x (loopC z2m))] (by kernel_rfl) ⟨zrh, trivial⟩) (by kernel_rfl) zzh (fun x => by kernel_rfl)
def z14h : Env := ⟨[(entQ zrc zp7), (entQ zne zl7)], [], []⟩
theorem zn7 : EnvsOK Try.prog z14h := ⟨z0o (z0q z12z) (z0o (z0q zue) (z0x _)), z0s _, z0t _⟩
def zdv : Shp := ⟨42, 2, [(0, .wn 0 c11), (5, .d (.int .i64))], [.row 85 c11, .var 25 (.d c1)]⟩
def z4a : XS := .one (.exit 0) zdv.xe
theorem zm4 : z4a.OK := XS.one_ok (z0c zdv)
def z3w : Shp := ⟨42, 2, [(0, .wn 0 c11), (1, .fn 67 [.pt 1 (.one (.arr 8 .leaf)) []]), (5, .d (.int .i64)), (6, .d (.int .i64))], [.row 85 c11, .var 25 (.d c1)]⟩
abbrev zah := Int × Int × (List T3) × (List Int)
abbrev zel := (Int × (List T3) × (List Int))
def zaf (i : Int) (j : Int) (t0 : List T3) (del : List Int) : Option (zah ⊕ zel) :=
 z0u (List.length t0) (
 bif ltI j (List.length t0 : Nat) then
 bif inI j (List.length t0) then
 (t0[j.toNat]?).bind fun x =>
 (zbs x del).bind fun r =>
 bif !r then
 bif inI i (List.length t0) then
 (t0[i.toNat]?).bind fun _x =>
 bif Nat.beq (List.length t0) (List.length (t0.set i.toNat x)) then
 some (.inl (W64 (i + 1), W64 (j + 1), t0.set i.toNat x, del))
 else none
 else none
 else
 bif Nat.beq (List.length t0) (List.length t0) then
 some (.inl (i, W64 (j + 1), t0, del))
 else none
 else none
 else
 bif Nat.beq (List.length t0) (List.length t0) then
 some (.inr (i, t0, del))
 else none)
def z1r (s : zah) : Option (zah ⊕ zel) := zaf s.1 s.2.1 s.2.2.1 s.2.2.2
theorem zmn : SoundD Try.prog (.loop (subC (bodyC Try.f66) [1, 1, 1, 0, 1, 0, 0])) (loopD z3w.xe z4a (loopC z1r)) :=
 z0w (S := z3w.xe) (X := z4a) zn7 (h := .no) (z0p [] (by kernel_rfl) trivial) (z0c z3w) zm4 z1r (fun s => by kernel_rfl)
def zmu : Shp := ⟨1, 2, [(0, .ws 0 c11)], [.row 85 c11, .var 25 (.d c1)]⟩
def zpr : XS := .one .ret zmu.xe
theorem zxw : zpr.OK := XS.one_ok (z0c zmu)
def zfc (t0 : List T3) (del : List Int) : Option (((List Bool) × (List T3) × (List Int))) :=
 winK t0 0 (List.length t0) fun w =>
 (zgn w del).bind fun r =>
 bif eqI r (-1) then
 some ((List.replicate (List.length t0) true), t0, del)
 else
 bif Nat.beq (List.length t0) (List.length t0) then
 (loopC z1r (r, W64 (r + 1), t0, del)).bind fun o =>
 bif subOk o.1 (List.length o.2.1 : Nat) (List.length o.2.1) then
 bif Nat.ble (addN o.1.toNat ((List.length o.2.1) - o.1.toNat)) (List.length o.2.1) then
 bif subOk 0 o.1 (List.length o.2.1) then
 some (((List.replicate o.1.toNat true), cpyL o.2.1 o.1.toNat ((List.length o.2.1) - o.1.toNat) (List.replicate ((List.length o.2.1) - o.1.toNat) (((0 : Int), (0 : Int)), ([] : List Int), List.replicate 8 (0 : Int))), o.2.2))
 else none
 else none
 else none
 else none
def zph : Sig := ⟨66, [.wn 0 c11, .fn 67 [.pt 1 (.one (.arr 8 .leaf)) []]], [.row 85 c11, .var 25 (.d c1)], 2, zpr⟩
def znw (x : (List T3) × (List Int)) : Option (((List Bool) × (List T3) × (List Int))) := zfc x.1 x.2
theorem z11w : FnOK Try.prog zph znw :=
 fn_ok zn7 (h := (.two .no (.two .no (.two .no (.two (.two .no (.over (loopD z3w.xe z4a (loopC z1r)))) .no))))) Try.func66 (z0p [.den (.loop (subC (bodyC Try.f66) [1, 1, 1, 0, 1, 0, 0])) (loopD z3w.xe z4a (loopC z1r))] (by kernel_rfl) ⟨zmn, trivial⟩) (by kernel_rfl) zxw (fun x => by kernel_rfl)
def z1gi : Env := ⟨[], [(entP zp0 zn9), (entP zph znw)], []⟩
theorem z1cy : EnvsOK Try.prog z1gi := ⟨z0x _, zdk (zie zvn) (zdk (zie z11w) (z0s _)), z0t _⟩
def zvs : Shp := ⟨1, 0, [(0, .d c10)], []⟩
def zzo : XS := .one .ret zvs.xe
theorem z1as : zzo.OK := XS.one_ok (z0c zvs)
def zon (l : List T3) (base : List Int) : Option (((List T3))) :=
 (zic l).bind fun r =>
 bif Nat.beq (List.length r) (List.length r) then
 (zfc r base).bind fun r2 =>
 winK r2.2.1 0 (lenW r2.1) fun w =>
 some w
 else none
def z11g : Sig := ⟨37, [.d c10, .d c1], [], 0, zzo⟩
def zxc (x : (List T3) × (List Int)) : Option (((List T3))) := zon x.1 x.2
theorem z1fa : FnOK Try.prog z11g zxc :=
 fn_ok z1cy (h := .no) Try.func37 (z0p [] (by kernel_rfl) trivial) (by kernel_rfl) z1as (fun x => by kernel_rfl)
def z1he : Env := ⟨[], [(entP zxi zvk), (entP zp0 zn9)], []⟩
theorem zv7 : EnvsOK Try.prog z1he := ⟨z0x _, zdk (zie z1cw) (zdk (zie zvn) (z0s _)), z0t _⟩
def zfh : Shp := ⟨31, 0, [(2, .pt 0 r15 []), (3, .pt 1 r15 [])], [.var 33 (.ag [.d c1, .wn 2 c14, .wn 3 c6, .d c16, .d (.arr 8 .bool)]), .var 33 (.ag [.d c1, .wn 4 c14, .wn 5 c6, .d c16, .d (.arr 8 .bool)]), .row 49 c14, .row 45 c6, .row 49 c14, .row 45 c6]⟩
def z5k : XS := .one (.exit 0) zfh.xe
theorem zox : z5k.OK := XS.one_ok (z0c zfh)
def z5m : Shp := ⟨31, 0, [(2, .pt 0 r15 []), (3, .pt 1 r15 []), (13, .d c18), (14, .d (.int .i64)), (15, .d (.int .i64))], [.var 33 (.ag [.d c1, .wn 2 c14, .wn 3 c6, .d c16, .d (.arr 8 .bool)]), .var 33 (.ag [.d c1, .wn 4 c14, .wn 5 c6, .d c16, .d (.arr 8 .bool)]), .row 49 c14, .row 45 c6, .row 49 c14, .row 45 c6]⟩
abbrev zc8 := (List T4) × Int × Int × (List Int) × (List Int) × (List Bool) × (List Int) × (List Int) × (List Bool) × (List T4) × (List T2) × (List T4) × (List T2)
abbrev zhk := ((List Int) × (List Int) × (List Bool) × (List Int) × (List Int) × (List Bool) × (List T4) × (List T2) × (List T4) × (List T2))
def zc9 (t13 : List T4) (t14 : Int) (t15 : Int) (t2 : List Int) (t22 : List Int) (t23 : List Bool) (out : List Int) (out2 : List Int) (out3 : List Bool) (t24 : List T4) (t25 : List T2) (out4 : List T4) (out5 : List T2) : Option (zc8 ⊕ zhk) :=
 bif ltI t15 t14 then
 (idxI t13 t15).bind fun x =>
 (zic x.2.2.2.2.2).bind fun r =>
 winK r 0 (List.length r) fun w =>
 bif Nat.beq (List.length out4) (List.length out4) then
 appG (List.length out4) (List.length ([(x.1, x.2.1, x.2.2.1, x.2.2.2.1, x.2.2.2.2.1, w)] : List T4)) 112 fun _ =>
 bif Nat.beq (List.length t24) (List.length t24) then
 bif Nat.beq (List.length t25) (List.length t25) then
 bif Nat.beq (List.length (out4 ++ ([(x.1, x.2.1, x.2.2.1, x.2.2.2.1, x.2.2.2.2.1, w)] : List T4))) (List.length (out4 ++ ([(x.1, x.2.1, x.2.2.1, x.2.2.2.1, x.2.2.2.2.1, w)] : List T4))) then
 bif Nat.beq (List.length out5) (List.length out5) then
 some (.inl (t13, t14, W64 (t15 + 1), t2, t22, t23, out, out2, out3, t24, t25, out4 ++ ([(x.1, x.2.1, x.2.2.1, x.2.2.2.1, x.2.2.2.2.1, w)] : List T4), out5))
 else none
 else none
 else none
 else none
 else none
 else
 bif Nat.beq (List.length t24) (List.length t24) then
 bif Nat.beq (List.length t25) (List.length t25) then
 bif Nat.beq (List.length out4) (List.length out4) then
 bif Nat.beq (List.length out5) (List.length out5) then
 some (.inr (t2, t22, t23, out, out2, out3, t24, t25, out4, out5))
 else none
 else none
 else none
 else none
def z2w (s : zc8) : Option (zc8 ⊕ zhk) := zc9 s.1 s.2.1 s.2.2.1 s.2.2.2.1 s.2.2.2.2.1 s.2.2.2.2.2.1 s.2.2.2.2.2.2.1 s.2.2.2.2.2.2.2.1 s.2.2.2.2.2.2.2.2.1 s.2.2.2.2.2.2.2.2.2.1 s.2.2.2.2.2.2.2.2.2.2.1 s.2.2.2.2.2.2.2.2.2.2.2.1 s.2.2.2.2.2.2.2.2.2.2.2.2
theorem zq4 : SoundD Try.prog (.loop (subC (bodyC Try.f35) [1, 1, 1, 1, 0, 1, 0, 0])) (loopD z5m.xe z5k (loopC z2w)) :=
 z0w (S := z5m.xe) (X := z5k) zv7 (h := (.two .no (.two .no (.two (.two .no (.two (.reg [4] []) .no)) .no)))) (z0p [] (by kernel_rfl) trivial) (z0c z5m) zox z2w (fun s => by kernel_rfl)
def zv8 : Shp := ⟨1, 0, [(0, .ag [.d c1, .wn 0 c14, .wn 1 c6, .d c16, .d (.arr 8 .bool)])], [.row 49 c14, .row 45 c6]⟩
def z10e : XS := .one .ret zv8.xe
theorem z1au : z10e.OK := XS.one_ok (z0c zv8)
def zos (t0 : T5) : Option (((List Int) × (List Int) × (List Bool) × (List T4) × (List T2))) :=
 (zmi t0.2.2.1).bind fun r =>
 z0u (List.length t0.2.1) (
 bif Nat.beq 0 (List.length ([] : List T4)) then
 bif Nat.beq 0 (List.length ([] : List T2)) then
 bif Nat.beq 0 (List.length ([] : List T4)) then
 bif Nat.beq (List.length r) (List.length r) then
 (loopC z2w (t0.2.1, (List.length t0.2.1 : Nat), 0, List.replicate 8 (0 : Int), List.replicate 8 (0 : Int), List.replicate 8 false, t0.1, t0.2.2.2.1, t0.2.2.2.2, ([] : List T4), ([] : List T2), ([] : List T4), r)).bind fun o =>
 bif Nat.beq (List.length o.2.2.2.2.2.2.2.2.1) (List.length o.2.2.2.2.2.2.2.2.1) then
 bif Nat.beq (List.length o.2.2.2.2.2.2.2.2.2) (List.length o.2.2.2.2.2.2.2.2.2) then
 some (o.2.2.2.1, o.2.2.2.2.1, o.2.2.2.2.2.1, o.2.2.2.2.2.2.2.2.1, o.2.2.2.2.2.2.2.2.2)
 else none
 else none
 else none
 else none
 else none
 else none)
def z10f : Sig := ⟨35, [.d c17], [], 0, z10e⟩
def zy6 (x : T5) : Option (((List Int) × (List Int) × (List Bool) × (List T4) × (List T2))) := zos x
theorem z1fk : FnOK Try.prog z10f zy6 :=
 fn_ok zv7 (h := (.two .no (.two (.reg [1000002] []) (.two .no (.two .no (.two (.two .no (.over (loopD z5m.xe z5k (loopC z2w)))) .no)))))) Try.func35 (z0p [.den (.loop (subC (bodyC Try.f35) [1, 1, 1, 1, 0, 1, 0, 0])) (loopD z5m.xe z5k (loopC z2w))] (by kernel_rfl) ⟨zq4, trivial⟩) (by kernel_rfl) z1au (fun x => by kernel_rfl)
def z1fj : Env := ⟨[], [], []⟩
theorem z19v : EnvsOK Try.prog z1fj := ⟨z0x _, z0s _, z0t _⟩
def zty : Shp := ⟨1, 1, [(0, .wn 1 c6)], [.row 45 c6, .row 45 c6]⟩
def zyx : XS := .one .ret zty.xe
theorem z19h : zyx.OK := XS.one_ok (z0c zty)
def zmq (t0 : List T2) : Option (((List T2) × (List T2))) :=
 nilK (List.length t0) fun q =>
 bif q then
 bif Nat.beq 0 (List.length ([] : List T2)) then
 some (t0, ([] : List T2))
 else none
 else
 winK t0 0 (List.length t0) fun w =>
 appG (List.length ([] : List T2)) (List.length w) 96 fun _ =>
 bif Nat.beq (List.length w) (List.length w) then
 some (t0, w)
 else none
def zy5 : Sig := ⟨61, [.wn 0 c6], [.row 45 c6], 1, zyx⟩
def zv9 (x : (List T2)) : Option (((List T2) × (List T2))) := zmq x
theorem z1dd : FnOK Try.prog zy5 zv9 :=
 fn_ok z19v (h := (.two .no (.two .no (.two (.reg [2] []) .no)))) Try.func61 (z0p [] (by kernel_rfl) trivial) (by kernel_rfl) z19h (fun x => by kernel_rfl)
def z1gz : Env := ⟨[], [(entP zy5 zv9), (entP zpp znv)], []⟩
theorem z1d3 : EnvsOK Try.prog z1gz := ⟨z0x _, zdk (zie z1dd) (zdk (zie z11t) (z0s _)), z0t _⟩
def zvf : Shp := ⟨1, 1, [(0, .ws 1 c6)], [.row 45 c6, .row 45 c6]⟩
def z10l : XS := .one .ret zvf.xe
theorem z1c6 : z10l.OK := XS.one_ok (z0c zvf)
def zor (base : List Int) (l : List T2) : Option (((List Bool) × (List T2) × (List T2))) :=
 bif Nat.beq (List.length l) (List.length l) then
 (zmq l).bind fun r =>
 bif Nat.beq (List.length r.2) (List.length r.2) then
 (zfe r.2 base).bind fun r2 =>
 some ((List.replicate (lenW r2.1) true), r.1, r2.2.1)
 else none
 else none
def z10s : Sig := ⟨36, [.wn 0 c6, .d c1], [.row 45 c6], 1, z10l⟩
def zyj (x : (List Int) × (List T2)) : Option (((List Bool) × (List T2) × (List T2))) := zor x.1 x.2
theorem z1g1 : FnOK Try.prog z10s zyj :=
 fn_ok z1d3 (h := .no) Try.func36 (z0p [] (by kernel_rfl) trivial) (by kernel_rfl) z1c6 (fun x => by kernel_rfl)
def z1sq : Env := ⟨[], [], []⟩
theorem z1pf : EnvsOK Try.prog z1sq := ⟨z0x _, z0s _, z0t _⟩
def z1e7 : Shp := ⟨1, 0, [(0, .d (.int .u32))], []⟩
def z1kl : XS := .one .ret z1e7.xe
theorem z1od : z1kl.OK := XS.one_ok (z0c z1e7)
def z1cr (v : List Int) (rep : Int) : Option ((Int)) :=
 bif ltI rep 1 then
 some 0
 else
 bif ltI 8 rep then
 some 0
 else
 bif inI (W64 (rep - 1)) 8 then
 (v[(W64 (rep - 1)).toNat]?).bind fun x =>
 some x
 else none
def z1kk : Sig := ⟨87, [.d c1, .d (.int .i64)], [], 0, z1kl⟩
def z1hl (x : (List Int) × Int) : Option ((Int)) := z1cr x.1 x.2
theorem z1ql : FnOK Try.prog z1kk z1hl :=
 fn_ok z1pf (h := .no) Try.func87 (z0p [] (by kernel_rfl) trivial) (by kernel_rfl) z1od (fun x => by kernel_rfl)
def z1rx : Env := ⟨[(entQ z1kk z1hl)], [], []⟩
theorem z1p4 : EnvsOK Try.prog z1rx := ⟨z0o (z0q z1ql) (z0x _), z0s _, z0t _⟩
def z1di : Shp := ⟨1, 0, [(0, .d .bool)], []⟩
def z1jq : XS := .one .ret z1di.xe
theorem z1nv : z1jq.OK := XS.one_ok (z0c z1di)
def zww (v : List Int) (id : T0) : Option ((Bool)) :=
 bif leI 1 id.2 then
 (z1cr v id.1).bind fun r =>
 some (leI id.2 r)
 else
 some false
def z1aj : Sig := ⟨69, [.d c1, .d c0], [], 0, z1jq⟩
def z16m (x : (List Int) × T0) : Option ((Bool)) := zww x.1 x.2
theorem z1hy : FnOK Try.prog z1aj z16m :=
 fn_ok z1p4 (h := .no) Try.func69 (z0p [] (by kernel_rfl) trivial) (by kernel_rfl) z1nv (fun x => by kernel_rfl)
def z1sf : Env := ⟨[], [], []⟩
theorem z1dz : EnvsOK Try.prog z1sf := ⟨z0x _, z0s _, z0t _⟩
def zs6 : Shp := ⟨18, 0, [], []⟩
def zsc : Shp := ⟨18, 0, [(4, .d .bool)], []⟩
def zeb : XS := .or (.exit 0) zs6.xe (.one .ret zsc.xe)
theorem z15t : zeb.OK := XS.or_ok (z0c zs6) (XS.one_ok (z0c zsc))
def ze8 : Shp := ⟨18, 0, [(3, .pt 0 (.one (.arr 8 .leaf)) []), (7, .d c1), (8, .d (.int .i64))], [.var 25 (.d c1)]⟩
abbrev zna := (List Int) × Int × (List Int)
abbrev zve := (Unit) ⊕ (Bool)
def znb (t7 : List Int) (t8 : Int) (b : List Int) : Option (zna ⊕ zve) :=
 bif ltI t8 8 then
 (idxI t7 t8).bind fun x =>
 bif inI t8 8 then
 (b[t8.toNat]?).bind fun x2 =>
 bif ltI x2 x then
 some (.inr (.inr false))
 else
 some (.inl (t7, W64 (t8 + 1), b))
 else none
 else
 some (.inr (.inl ()))
def z7l (s : zna) : Option (zna ⊕ zve) := znb s.1 s.2.1 s.2.2
theorem z18x : SoundD Try.prog (.loop (subC (bodyC Try.f51) [1, 0, 1, 0, 0])) (loopD ze8.xe zeb (loopC z7l)) :=
 z0w (S := ze8.xe) (X := zeb) z1dz (h := .no) (z0p [] (by kernel_rfl) trivial) (z0c ze8) z15t z7l (fun s => by kernel_rfl)
def z1ee : Shp := ⟨1, 0, [(0, .d .bool)], []⟩
def z1jz : XS := .one .ret z1ee.xe
theorem z1nz : z1jz.OK := XS.one_ok (z0c z1ee)
def z1ci (a : List Int) (b : List Int) : Option ((Bool)) :=
 (loopC z7l (a, 0, b)).bind fun o =>
 Sum.elim (fun y =>
 some true) (fun y2 =>
 some y2) o
def z1k1 : Sig := ⟨51, [.d c1, .d c1], [], 0, z1jz⟩
def z1i7 (x : (List Int) × (List Int)) : Option ((Bool)) := z1ci x.1 x.2
theorem z1qe : FnOK Try.prog z1k1 z1i7 :=
 fn_ok z1dz (h := (.two .no (.two (.two .no (.over (loopD ze8.xe zeb (loopC z7l)))) .no))) Try.func51 (z0p [.den (.loop (subC (bodyC Try.f51) [1, 0, 1, 0, 0])) (loopD ze8.xe zeb (loopC z7l))] (by kernel_rfl) ⟨z18x, trivial⟩) (by kernel_rfl) z1nz (fun x => by kernel_rfl)
def z1ij : Env := ⟨[], [], []⟩
theorem z1fg : EnvsOK Try.prog z1ij := ⟨z0x _, z0s _, z0t _⟩
def zxr : Shp := ⟨1, 0, [(0, .d .bool)], []⟩
def z14q : XS := .one .ret zxr.xe
theorem z1d1 : z14q.OK := XS.one_ok (z0c zxr)
def zr0 (v : T3) : Option ((Bool)) :=
 some (eqU c1 v.2.2 (List.replicate 8 (0 : Int)))
def zsr : Sig := ⟨46, [.d c11], [], 0, z14q⟩
def zrg (x : T3) : Option ((Bool)) := zr0 x
theorem z10j : FnOK Try.prog zsr zrg :=
 fn_ok z1fg (h := .no) Try.func46 (z0p [] (by kernel_rfl) trivial) (by kernel_rfl) z1d1 (fun x => by kernel_rfl)
def z1h3 : Env := ⟨[(entQ zsr zrg)], [], []⟩
theorem zvp : EnvsOK Try.prog z1h3 := ⟨z0o (z0q z10j) (z0x _), z0s _, z0t _⟩
def zio : Shp := ⟨20, 0, [(3, .wn 0 c11)], [.row 85 c11]⟩
def z8b : XS := .one (.exit 0) zio.xe
theorem zt5 : z8b.OK := XS.one_ok (z0c zio)
def z8e : Shp := ⟨20, 0, [(3, .wn 0 c11), (6, .d c10), (7, .d (.int .i64)), (8, .d (.int .i64))], [.row 85 c11]⟩
abbrev zee := (List T3) × Int × Int × (List T3)
abbrev zkf := ((List T3))
def zed (t6 : List T3) (t7 : Int) (t8 : Int) (out : List T3) : Option (zee ⊕ zkf) :=
 bif ltI t8 t7 then
 (idxI t6 t8).bind fun x =>
 (zr0 x).bind fun r =>
 bif r then
 bif Nat.beq (List.length out) (List.length out) then
 appG (List.length out) (List.length ([x] : List T3)) 64 fun _ =>
 bif Nat.beq (List.length (out ++ ([x] : List T3))) (List.length (out ++ ([x] : List T3))) then
 some (.inl (t6, t7, W64 (t8 + 1), out ++ ([x] : List T3)))
 else none
 else none
 else
 bif Nat.beq (List.length out) (List.length out) then
 some (.inl (t6, t7, W64 (t8 + 1), out))
 else none
 else
 bif Nat.beq (List.length out) (List.length out) then
 some (.inr out)
 else none
def z3v (s : zee) : Option (zee ⊕ zkf) := zed s.1 s.2.1 s.2.2.1 s.2.2.2
theorem zti : SoundD Try.prog (.loop (subC (bodyC Try.f89) [1, 1, 0, 1, 0, 0])) (loopD z8e.xe z8b (loopC z3v)) :=
 z0w (S := z8e.xe) (X := z8b) zvp (h := .no) (z0p [] (by kernel_rfl) trivial) (z0c z8e) zt5 z3v (fun s => by kernel_rfl)
def zvr : Shp := ⟨1, 0, [(0, .d c10)], []⟩
def zzr : XS := .one .ret zvr.xe
theorem z1a7 : zzr.OK := XS.one_ok (z0c zvr)
def zoo (l : List T3) : Option (((List T3))) :=
 z0u (List.length l) (
 bif Nat.beq 0 (List.length ([] : List T3)) then
 (loopC z3v (l, (List.length l : Nat), 0, ([] : List T3))).bind fun o =>
 winK o 0 (List.length o) fun w =>
 some w
 else none)
def z10c : Sig := ⟨89, [.d c10], [], 0, zzr⟩
def zyb (x : (List T3)) : Option (((List T3))) := zoo x
theorem z1fp : FnOK Try.prog z10c zyb :=
 fn_ok zvp (h := (.two .no (.two .no (.two (.two .no (.over (loopD z8e.xe z8b (loopC z3v)))) .no)))) Try.func89 (z0p [.den (.loop (subC (bodyC Try.f89) [1, 1, 0, 1, 0, 0])) (loopD z8e.xe z8b (loopC z3v))] (by kernel_rfl) ⟨zti, trivial⟩) (by kernel_rfl) z1a7 (fun x => by kernel_rfl)
def z1ak : Env := ⟨[(entQ z1aj z16m)], [], []⟩
theorem z16n : EnvsOK Try.prog z1ak := ⟨z0o (z0q z1hy) (z0x _), z0s _, z0t _⟩
def zrm : Shp := ⟨1, 0, [(0, .d .bool)], []⟩
def zu8 : XS := .one .ret zrm.xe
theorem z12i : zu8.OK := XS.one_ok (z0c zrm)
def zjf (v : T3) (t1 : List Int) : Option ((Bool)) :=
 (zww t1 v.1).bind fun r =>
 some (!r)
def zua : Sig := ⟨90, [.d c11, .rf (.d c1)], [], 0, zu8⟩
def zsa (x : T3 × (List Int)) : Option ((Bool)) := zjf x.1 x.2
theorem z19a : FnOK Try.prog zua zsa :=
 fn_ok z16n (h := .no) Try.func90 (z0p [] (by kernel_rfl) trivial) (by kernel_rfl) z12i (fun x => by kernel_rfl)
def z16i : Env := ⟨[(entQ zua zsa)], [], []⟩
theorem znq : EnvsOK Try.prog z16i := ⟨z0o (z0q z19a) (z0x _), z0s _, z0t _⟩
def zgj : Shp := ⟨19, 0, [], []⟩
def zg5 : Shp := ⟨19, 0, [(4, .d (.int .i64))], []⟩
def z6f : XS := .or (.exit 0) zgj.xe (.one .ret zg5.xe)
theorem zq2 : z6f.OK := XS.or_ok (z0c zgj) (XS.one_ok (z0c zg5))
def z5y : Shp := ⟨19, 0, [(0, .d c10), (1, .fn 90 [.rf (.d c1)]), (7, .d (.int .i64)), (8, .d (.int .i64))], []⟩
abbrev zcy := (List T3) × (List Int) × Int × Int
abbrev zi6 := (Unit) ⊕ (Int)
def zcs (t0 : List T3) (f : List Int) (t7 : Int) (t8 : Int) : Option (zcy ⊕ zi6) :=
 bif ltI t8 t7 then
 (idxI t0 t8).bind fun x =>
 (zjf x f).bind fun r =>
 bif r then
 some (.inr (.inr t8))
 else
 some (.inl (t0, f, t7, W64 (t8 + 1)))
 else
 some (.inr (.inl ()))
def z2l (s : zcy) : Option (zcy ⊕ zi6) := zcs s.1 s.2.1 s.2.2.1 s.2.2.2
theorem zr6 : SoundD Try.prog (.loop (subC (bodyC Try.f86) [1, 0, 1, 0, 0])) (loopD z5y.xe z6f (loopC z2l)) :=
 z0w (S := z5y.xe) (X := z6f) znq (h := .no) (z0p [] (by kernel_rfl) trivial) (z0c z5y) zq2 z2l (fun s => by kernel_rfl)
def zoc : Shp := ⟨1, 0, [(0, .d (.int .i64))], []⟩
def zrr : XS := .one .ret zoc.xe
theorem zze : zrr.OK := XS.one_ok (z0c zoc)
def zga (t0 : List T3) (f : List Int) : Option ((Int)) :=
 z0u (List.length t0) (
 (loopC z2l (t0, f, (List.length t0 : Nat), 0)).bind fun o =>
 Sum.elim (fun y =>
 some (-1)) (fun y2 =>
 some y2) o)
def zqi : Sig := ⟨86, [.d c10, .fn 90 [.rf (.d c1)]], [], 0, zrr⟩
def zpw (x : (List T3) × (List Int)) : Option ((Int)) := zga x.1 x.2
theorem z13o : FnOK Try.prog zqi zpw :=
 fn_ok znq (h := (.two .no (.two (.two .no (.over (loopD z5y.xe z6f (loopC z2l)))) .no))) Try.func86 (z0p [.den (.loop (subC (bodyC Try.f86) [1, 0, 1, 0, 0])) (loopD z5y.xe z6f (loopC z2l))] (by kernel_rfl) ⟨zr6, trivial⟩) (by kernel_rfl) zze (fun x => by kernel_rfl)
def z15h : Env := ⟨[(entQ zqi zpw)], [], []⟩
theorem zzi : EnvsOK Try.prog z15h := ⟨z0o (z0q z13o) (z0x _), z0s _, z0t _⟩
def zmv : Shp := ⟨1, 0, [(0, .d .bool)], []⟩
def zps : XS := .one .ret zmv.xe
theorem zxs : zps.OK := XS.one_ok (z0c zmv)
def zkd (t0 : List T3) (f : List Int) : Option ((Bool)) :=
 (zga t0 f).bind fun r =>
 some (leI 0 r)
def zpl : Sig := ⟨88, [.d c10, .fn 90 [.rf (.d c1)]], [], 0, zps⟩
def zod (x : (List T3) × (List Int)) : Option ((Bool)) := zkd x.1 x.2
theorem z11z : FnOK Try.prog zpl zod :=
 fn_ok zzi (h := .no) Try.func88 (z0p [] (by kernel_rfl) trivial) (by kernel_rfl) zxs (fun x => by kernel_rfl)
def z1et : Env := ⟨[(entQ z10c zyb), (entQ zpl zod)], [], []⟩
theorem z1c3 : EnvsOK Try.prog z1et := ⟨z0o (z0q z1fp) (z0o (z0q z11z) (z0x _)), z0s _, z0t _⟩
def zu3 : Shp := ⟨1, 0, [(0, .d .bool)], []⟩
def zxo : XS := .one .ret zu3.xe
theorem z19g : zxo.OK := XS.one_ok (z0c zu3)
def zmh (l : List T3) (seen : List Int) : Option ((Bool)) :=
 (zoo l).bind fun r =>
 (zkd r seen).bind fun r2 =>
 some r2
def zx7 : Sig := ⟨70, [.d c10, .d c1], [], 0, zxo⟩
def zva (x : (List T3) × (List Int)) : Option ((Bool)) := zmh x.1 x.2
theorem z1d2 : FnOK Try.prog zx7 zva :=
 fn_ok z1c3 (h := .no) Try.func70 (z0p [] (by kernel_rfl) trivial) (by kernel_rfl) z19g (fun x => by kernel_rfl)
def z1fn : Env := ⟨[], [], []⟩
theorem z1br : EnvsOK Try.prog z1fn := ⟨z0x _, z0s _, z0t _⟩
def ztp : Shp := ⟨1, 0, [(0, .d .bool)], []⟩
def zxj : XS := .one .ret ztp.xe
theorem z19j : zxj.OK := XS.one_ok (z0c ztp)
def zmm (x : T2) (t1 : T4) : Option ((Bool)) :=
 bif eqU c0 x.2.2.2.1 t1.1 then
 some true
 else
 some (eqU c0 x.2.1 t1.1)
def zy4 : Sig := ⟨72, [.d c6, .rf (.d c14)], [], 0, zxj⟩
def zv6 (x : T2 × T4) : Option ((Bool)) := zmm x.1 x.2
theorem z1d5 : FnOK Try.prog zy4 zv6 :=
 fn_ok z1br (h := .no) Try.func72 (z0p [] (by kernel_rfl) trivial) (by kernel_rfl) z19j (fun x => by kernel_rfl)
def z16l : Env := ⟨[(entQ zy4 zv6)], [], []⟩
theorem zof : EnvsOK Try.prog z16l := ⟨z0o (z0q z1d5) (z0x _), z0s _, z0t _⟩
def zgl : Shp := ⟨19, 0, [], []⟩
def zg3 : Shp := ⟨19, 0, [(4, .d (.int .i64))], []⟩
def z6c : XS := .or (.exit 0) zgl.xe (.one .ret zg3.xe)
theorem zq0 : z6c.OK := XS.or_ok (z0c zgl) (XS.one_ok (z0c zg3))
def z5v : Shp := ⟨19, 0, [(0, .d c5), (1, .fn 72 [.rf (.d c14)]), (7, .d (.int .i64)), (8, .d (.int .i64))], []⟩
abbrev zcv := (List T2) × T4 × Int × Int
abbrev zi0 := (Unit) ⊕ (Int)
def zcz (t0 : List T2) (f : T4) (t7 : Int) (t8 : Int) : Option (zcv ⊕ zi0) :=
 bif ltI t8 t7 then
 (idxI t0 t8).bind fun x =>
 (zmm x f).bind fun r =>
 bif r then
 some (.inr (.inr t8))
 else
 some (.inl (t0, f, t7, W64 (t8 + 1)))
 else
 some (.inr (.inl ()))
def z2n (s : zcv) : Option (zcv ⊕ zi0) := zcz s.1 s.2.1 s.2.2.1 s.2.2.2
theorem zqh : SoundD Try.prog (.loop (subC (bodyC Try.f85) [1, 0, 1, 0, 0])) (loopD z5v.xe z6c (loopC z2n)) :=
 z0w (S := z5v.xe) (X := z6c) zof (h := .no) (z0p [] (by kernel_rfl) trivial) (z0c z5v) zq0 z2n (fun s => by kernel_rfl)
def zny : Shp := ⟨1, 0, [(0, .d (.int .i64))], []⟩
def zrq : XS := .one .ret zny.xe
theorem zzg : zrq.OK := XS.one_ok (z0c zny)
def zgg (t0 : List T2) (f : T4) : Option ((Int)) :=
 z0u (List.length t0) (
 (loopC z2n (t0, f, (List.length t0 : Nat), 0)).bind fun o =>
 Sum.elim (fun y =>
 some (-1)) (fun y2 =>
 some y2) o)
def zqg : Sig := ⟨85, [.d c5, .fn 72 [.rf (.d c14)]], [], 0, zrq⟩
def zpx (x : (List T2) × T4) : Option ((Int)) := zgg x.1 x.2
theorem z15j : FnOK Try.prog zqg zpx :=
 fn_ok zof (h := (.two .no (.two (.two .no (.over (loopD z5v.xe z6c (loopC z2n)))) .no))) Try.func85 (z0p [.den (.loop (subC (bodyC Try.f85) [1, 0, 1, 0, 0])) (loopD z5v.xe z6c (loopC z2n))] (by kernel_rfl) ⟨zqh, trivial⟩) (by kernel_rfl) zzg (fun x => by kernel_rfl)
def zzc : Env := ⟨[(entQ zqg zpx)], [], []⟩
theorem zwa : EnvsOK Try.prog zzc := ⟨z0o (z0q z15j) (z0x _), z0s _, z0t _⟩
def zkn : Shp := ⟨1, 0, [(0, .d .bool)], []⟩
def zn0 : XS := .one .ret zkn.xe
theorem zut : zn0.OK := XS.one_ok (z0c zkn)
def zdr (t0 : List T2) (f : T4) : Option ((Bool)) :=
 (zgg t0 f).bind fun r =>
 some (leI 0 r)
def zn4 : Sig := ⟨71, [.d c5, .fn 72 [.rf (.d c14)]], [], 0, zn0⟩
def zl9 (x : (List T2) × T4) : Option ((Bool)) := zdr x.1 x.2
theorem zx9 : FnOK Try.prog zn4 zl9 :=
 fn_ok zwa (h := .no) Try.func71 (z0p [] (by kernel_rfl) trivial) (by kernel_rfl) zut (fun x => by kernel_rfl)
def z1je : Env := ⟨[(entQ z1aj z16m), (entQ z1k1 z1i7), (entQ zx7 zva), (entQ zn4 zl9)], [], []⟩
theorem zz8 : EnvsOK Try.prog z1je := ⟨z0o (z0q z1hy) (z0o (z0q z1qe) (z0o (z0q z1d2) (z0o (z0q zx9) (z0x _)))), z0s _, z0t _⟩
def zjm : Shp := ⟨45, 0, [(3, .pt 0 r15 []), (4, .pt 1 r13 [])], [.var 33 (.d c17), .var 49 (.d c14)]⟩
def zjo : Shp := ⟨45, 0, [(6, .d .bool)], []⟩
def z8z : XS := .or (.exit 0) zjm.xe (.one .ret zjo.xe)
theorem ztj : z8z.OK := XS.or_ok (z0c zjm) (XS.one_ok (z0c zjo))
def z8t : Shp := ⟨45, 0, [(3, .pt 0 r15 []), (4, .pt 1 r13 []), (5, .pt 2 (.one (.arr 8 .leaf)) []), (29, .d c10), (30, .d (.int .i64)), (31, .d (.int .i64))], [.var 33 (.d c17), .var 49 (.d c14), .var 25 (.d c1)]⟩
abbrev zf3 := (List T3) × Int × Int × T5 × T4 × (List Int)
abbrev zm8 := (T5 × T4) ⊕ (Bool)
def zf7 (t29 : List T3) (t30 : Int) (t31 : Int) (t3 : T5) (o : T4) (base : List Int) : Option (zf3 ⊕ zm8) :=
 bif ltI t31 t30 then
 (idxI t29 t31).bind fun x =>
 (zww base x.1).bind fun r =>
 bif !r then
 some (.inr (.inr true))
 else
 some (.inl (t29, t30, W64 (t31 + 1), t3, o, base))
 else
 some (.inr (.inl (t3, o)))
def z3g (s : zf3) : Option (zf3 ⊕ zm8) := zf7 s.1 s.2.1 s.2.2.1 s.2.2.2.1 s.2.2.2.2.1 s.2.2.2.2.2
theorem zv2 : SoundD Try.prog (.loop (subC (bodyC Try.f40) [1, 1, 0, 1, 0, 0])) (loopD z8t.xe z8z (loopC z3g)) :=
 z0w (S := z8t.xe) (X := z8z) zz8 (h := .no) (z0p [] (by kernel_rfl) trivial) (z0c z8t) ztj z3g (fun s => by kernel_rfl)
def zym : Shp := ⟨1, 0, [(0, .d .bool)], []⟩
def z12r : XS := .one .ret zym.xe
theorem z1dc : z12r.OK := XS.one_ok (z0c zym)
def zl3 (t0 : T5) (o : T4) (base : List Int) : Option ((Bool)) :=
 (zww base o.1).bind fun r =>
 bif !r then
 some true
 else
 (z1ci o.2.2.2.2.1 base).bind fun r2 =>
 bif !r2 then
 some true
 else
 (zmh o.2.2.2.2.2 o.2.2.2.2.1).bind fun r3 =>
 bif r3 then
 some true
 else
 z0u (List.length o.2.2.2.2.2) (
 (loopC z3g (o.2.2.2.2.2, (List.length o.2.2.2.2.2 : Nat), 0, t0, o, base)).bind fun o2 =>
 Sum.elim (fun y =>
 (zdr y.1.2.2.1 y.2).bind fun r4 =>
 some r4) (fun y2 =>
 some y2) o2)
def zsx : Sig := ⟨40, [.d c17, .d c14, .d c1], [], 0, z12r⟩
def zrk (x : T5 × T4 × (List Int)) : Option ((Bool)) := zl3 x.1 x.2.1 x.2.2
theorem z10a : FnOK Try.prog zsx zrk :=
 fn_ok zz8 (h := (.two .no (.two .no (.two (.two .no (.over (loopD z8t.xe z8z (loopC z3g)))) .no)))) Try.func40 (z0p [.den (.loop (subC (bodyC Try.f40) [1, 1, 0, 1, 0, 0])) (loopD z8t.xe z8z (loopC z3g))] (by kernel_rfl) ⟨zv2, trivial⟩) (by kernel_rfl) z1dc (fun x => by kernel_rfl)
def z1d7 : Env := ⟨[(entQ zsx zrk)], [], []⟩
theorem z19b : EnvsOK Try.prog z1d7 := ⟨z0o (z0q z10a) (z0x _), z0s _, z0t _⟩
def zs9 : Shp := ⟨1, 0, [(0, .d .bool)], []⟩
def zvg : XS := .one .ret zs9.xe
theorem z16b : zvg.OK := XS.one_ok (z0c zs9)
def zg8 (o : T4) (t1 : List Int) (t12 : List T4) (t13 : List T2) (t14 : List Int) (t15 : List Bool) (t2 : List Int) : Option ((Bool)) :=
 (zl3 (t1, t12, t13, t14, t15) o t2).bind fun r =>
 some (!r)
def znc : Sig := ⟨39, [.d c14, .rf (.ag [.d c1, .d c18, .d c5, .d c16, .d (.arr 8 .bool)]), .rf (.d c1)], [], 0, zvg⟩
def zli (x : T4 × (List Int) × (List T4) × (List T2) × (List Int) × (List Bool) × (List Int)) : Option ((Bool)) := zg8 x.1 x.2.1 x.2.2.1 x.2.2.2.1 x.2.2.2.2.1 x.2.2.2.2.2.1 x.2.2.2.2.2.2
theorem zuf : FnOK Try.prog znc zli :=
 fn_ok z19b (h := .no) Try.func39 (z0p [] (by kernel_rfl) trivial) (by kernel_rfl) z16b (fun x => by kernel_rfl)
def z16j : Env := ⟨[(entQ znc zli)], [], []⟩
theorem zni : EnvsOK Try.prog z16j := ⟨z0o (z0q zuf) (z0x _), z0s _, z0t _⟩
def zgi : Shp := ⟨19, 0, [], []⟩
def zg0 : Shp := ⟨19, 0, [(4, .d (.int .i64))], []⟩
def z5u : XS := .or (.exit 0) zgi.xe (.one .ret zg0.xe)
theorem zq3 : z5u.OK := XS.or_ok (z0c zgi) (XS.one_ok (z0c zg0))
def z5z : Shp := ⟨19, 0, [(0, .d c18), (1, .fn 39 [.rf (.ag [.d c1, .d c18, .d c5, .d c16, .d (.arr 8 .bool)]), .rf (.d c1)]), (7, .d (.int .i64)), (8, .d (.int .i64))], []⟩
abbrev zcq := (List T4) × (List Int) × (List T4) × (List T2) × (List Int) × (List Bool) × (List Int) × Int × Int
abbrev zi3 := (Unit) ⊕ (Int)
def zcu (t0 : List T4) (f : List Int) (f2 : List T4) (f3 : List T2) (f4 : List Int) (f5 : List Bool) (f6 : List Int) (t7 : Int) (t8 : Int) : Option (zcq ⊕ zi3) :=
 bif ltI t8 t7 then
 (idxI t0 t8).bind fun x =>
 (zg8 x f f2 f3 f4 f5 f6).bind fun r =>
 bif r then
 some (.inr (.inr t8))
 else
 some (.inl (t0, f, f2, f3, f4, f5, f6, t7, W64 (t8 + 1)))
 else
 some (.inr (.inl ()))
def z2p (s : zcq) : Option (zcq ⊕ zi3) := zcu s.1 s.2.1 s.2.2.1 s.2.2.2.1 s.2.2.2.2.1 s.2.2.2.2.2.1 s.2.2.2.2.2.2.1 s.2.2.2.2.2.2.2.1 s.2.2.2.2.2.2.2.2
theorem zqv : SoundD Try.prog (.loop (subC (bodyC Try.f68) [1, 0, 1, 0, 0])) (loopD z5z.xe z5u (loopC z2p)) :=
 z0w (S := z5z.xe) (X := z5u) zni (h := .no) (z0p [] (by kernel_rfl) trivial) (z0c z5z) zq3 z2p (fun s => by kernel_rfl)
def znl : Shp := ⟨1, 0, [(0, .d (.int .i64))], []⟩
def zql : XS := .one .ret znl.xe
theorem zzd : zql.OK := XS.one_ok (z0c znl)
def zgk (t0 : List T4) (f : List Int) (f2 : List T4) (f3 : List T2) (f4 : List Int) (f5 : List Bool) (f6 : List Int) : Option ((Int)) :=
 z0u (List.length t0) (
 (loopC z2p (t0, f, f2, f3, f4, f5, f6, (List.length t0 : Nat), 0)).bind fun o =>
 Sum.elim (fun y =>
 some (-1)) (fun y2 =>
 some y2) o)
def zqe : Sig := ⟨68, [.d c18, .fn 39 [.rf (.ag [.d c1, .d c18, .d c5, .d c16, .d (.arr 8 .bool)]), .rf (.d c1)]], [], 0, zql⟩
def zpi (x : (List T4) × (List Int) × (List T4) × (List T2) × (List Int) × (List Bool) × (List Int)) : Option ((Int)) := zgk x.1 x.2.1 x.2.2.1 x.2.2.2.1 x.2.2.2.2.1 x.2.2.2.2.2.1 x.2.2.2.2.2.2
theorem z13w : FnOK Try.prog zqe zpi :=
 fn_ok zni (h := (.two .no (.two (.two .no (.over (loopD z5z.xe z5u (loopC z2p)))) .no))) Try.func68 (z0p [.den (.loop (subC (bodyC Try.f68) [1, 0, 1, 0, 0])) (loopD z5z.xe z5u (loopC z2p))] (by kernel_rfl) ⟨zqv, trivial⟩) (by kernel_rfl) zzd (fun x => by kernel_rfl)
def z14o : Env := ⟨[(entQ zqe zpi), (entQ znc zli)], [], []⟩
theorem zn5 : EnvsOK Try.prog z14o := ⟨z0o (z0q z13w) (z0o (z0q zuf) (z0x _)), z0s _, z0t _⟩
def zds : Shp := ⟨42, 3, [(0, .wn 0 c14), (5, .d (.int .i64))], [.row 49 c14, .var 33 (.ag [.d c1, .wn 0 c14, .ws 3 c6, .d c16, .d (.arr 8 .bool)]), .var 25 (.d c1), .row 45 c6]⟩
def z3z : XS := .one (.exit 0) zds.xe
theorem zlt : z3z.OK := XS.one_ok (z0c zds)
def z4d : Shp := ⟨42, 3, [(0, .wn 0 c14), (1, .fn 39 [.pt 1 r15 [], .pt 2 (.one (.arr 8 .leaf)) []]), (5, .d (.int .i64)), (6, .d (.int .i64))], [.row 49 c14, .var 33 (.ag [.d c1, .wn 0 c14, .ws 3 c6, .d c16, .d (.arr 8 .bool)]), .var 25 (.d c1), .row 45 c6]⟩
abbrev zam := Int × Int × (List T4) × (List Int) × (List Bool) × (List Int) × (List Bool) × (List Int) × (List T2)
abbrev zen := (Int × (List T4) × (List Int) × (List Bool) × (List Int) × (List Bool) × (List Int) × (List T2))
def zan (i : Int) (j : Int) (t0 : List T4) (del : List Int) (del2 : List Bool) (del3 : List Int) (del4 : List Bool) (del5 : List Int) (del6 : List T2) : Option (zam ⊕ zen) :=
 z0u (List.length t0) (
 bif ltI j (List.length t0 : Nat) then
 bif inI j (List.length t0) then
 (t0[j.toNat]?).bind fun x =>
 winK t0 0 (List.length t0) fun w =>
 winK del6 0 (lenW del2) fun w2 =>
 (zg8 x del w w2 del3 del4 del5).bind fun r =>
 bif !r then
 bif inI i (List.length t0) then
 (t0[i.toNat]?).bind fun _x =>
 bif Nat.beq (List.length t0) (List.length (t0.set i.toNat x)) then
 bif Nat.beq (List.length t0) (List.length (t0.set i.toNat x)) then
 some (.inl (W64 (i + 1), W64 (j + 1), t0.set i.toNat x, del, (List.replicate (lenW del2) true), del3, del4, del5, del6))
 else none
 else none
 else none
 else
 bif Nat.beq (List.length t0) (List.length t0) then
 bif Nat.beq (List.length t0) (List.length t0) then
 some (.inl (i, W64 (j + 1), t0, del, (List.replicate (lenW del2) true), del3, del4, del5, del6))
 else none
 else none
 else none
 else
 bif Nat.beq (List.length t0) (List.length t0) then
 bif Nat.beq (List.length t0) (List.length t0) then
 some (.inr (i, t0, del, (List.replicate (lenW del2) true), del3, del4, del5, del6))
 else none
 else none)
def z1s (s : zam) : Option (zam ⊕ zen) := zan s.1 s.2.1 s.2.2.1 s.2.2.2.1 s.2.2.2.2.1 s.2.2.2.2.2.1 s.2.2.2.2.2.2.1 s.2.2.2.2.2.2.2.1 s.2.2.2.2.2.2.2.2
theorem zmf : SoundD Try.prog (.loop (subC (bodyC Try.f38) [1, 1, 1, 0, 1, 0, 0])) (loopD z4d.xe z3z (loopC z1s)) :=
 z0w (S := z4d.xe) (X := z3z) zn5 (h := .no) (z0p [] (by kernel_rfl) trivial) (z0c z4d) zlt z1s (fun s => by kernel_rfl)
def zn1 : Shp := ⟨1, 3, [(0, .ws 0 c14)], [.row 49 c14, .var 33 (.ag [.d c1, .wn 0 c14, .ws 3 c6, .d c16, .d (.arr 8 .bool)]), .var 25 (.d c1), .row 45 c6]⟩
def zpf : XS := .one .ret zn1.xe
theorem zz0 : zpf.OK := XS.one_ok (z0c zn1)
def zfd (t0 : List T4) (del : List Int) (del2 : List Bool) (del3 : List Int) (del4 : List Bool) (del5 : List Int) (del6 : List T2) : Option (((List Bool) × (List T4) × (List Int) × (List Bool) × (List Int) × (List Bool) × (List Int) × (List T2))) :=
 winK t0 0 (List.length t0) fun w =>
 winK t0 0 (List.length t0) fun w2 =>
 winK del6 0 (lenW del2) fun w3 =>
 (zgk w del w2 w3 del3 del4 del5).bind fun r =>
 bif eqI r (-1) then
 bif Nat.beq (List.length t0) (List.length t0) then
 some ((List.replicate (List.length t0) true), t0, del, (List.replicate (lenW del2) true), del3, del4, del5, del6)
 else none
 else
 bif Nat.beq (List.length t0) (List.length t0) then
 bif Nat.beq (List.length t0) (List.length t0) then
 (loopC z1s (r, W64 (r + 1), t0, del, (List.replicate (lenW del2) true), del3, del4, del5, del6)).bind fun o =>
 bif subOk o.1 (List.length o.2.1 : Nat) (List.length o.2.1) then
 bif Nat.ble (addN o.1.toNat ((List.length o.2.1) - o.1.toNat)) (List.length o.2.1) then
 bif subOk 0 o.1 (List.length o.2.1) then
 bif Nat.beq (List.length o.2.1) (List.length (cpyL o.2.1 o.1.toNat ((List.length o.2.1) - o.1.toNat) (List.replicate ((List.length o.2.1) - o.1.toNat) (((0 : Int), (0 : Int)), false, ((0 : Int), (0 : Int)), ([] : List Int), List.replicate 8 (0 : Int), ([] : List T3))))) then
 some (((List.replicate o.1.toNat true), cpyL o.2.1 o.1.toNat ((List.length o.2.1) - o.1.toNat) (List.replicate ((List.length o.2.1) - o.1.toNat) (((0 : Int), (0 : Int)), false, ((0 : Int), (0 : Int)), ([] : List Int), List.replicate 8 (0 : Int), ([] : List T3))), o.2.2.1, (List.replicate (lenW o.2.2.2.1) true), o.2.2.2.2.1, o.2.2.2.2.2.1, o.2.2.2.2.2.2.1, o.2.2.2.2.2.2.2))
 else none
 else none
 else none
 else none
 else none
 else none
def zpd : Sig := ⟨38, [.wn 0 c14, .fn 39 [.pt 1 r15 [], .pt 2 (.one (.arr 8 .leaf)) []]], [.row 49 c14, .var 33 (.ag [.d c1, .wn 0 c14, .ws 3 c6, .d c16, .d (.arr 8 .bool)]), .var 25 (.d c1), .row 45 c6], 3, zpf⟩
def znz (x : (List T4) × (List Int) × (List Bool) × (List Int) × (List Bool) × (List Int) × (List T2)) : Option (((List Bool) × (List T4) × (List Int) × (List Bool) × (List Int) × (List Bool) × (List Int) × (List T2))) := zfd x.1 x.2.1 x.2.2.1 x.2.2.2.1 x.2.2.2.2.1 x.2.2.2.2.2.1 x.2.2.2.2.2.2
theorem z12b : FnOK Try.prog zpd znz :=
 fn_ok zn5 (h := (.two .no (.two .no (.two .no (.two (.two .no (.over (loopD z4d.xe z3z (loopC z1s)))) .no))))) Try.func38 (z0p [.den (.loop (subC (bodyC Try.f38) [1, 1, 1, 0, 1, 0, 0])) (loopD z4d.xe z3z (loopC z1s))] (by kernel_rfl) ⟨zmf, trivial⟩) (by kernel_rfl) zz0 (fun x => by kernel_rfl)
def z1hb : Env := ⟨[(entQ z11g zxc)], [(entP z10f zy6), (entP z10s zyj), (entP zpd znz)], []⟩
theorem zvu : EnvsOK Try.prog z1hb := ⟨z0o (z0q z1fa) (z0x _), zdk (zie z1fk) (zdk (zie z1g1) (zdk (zie z12b) (z0s _))), z0t _⟩
def zhn : Shp := ⟨41, 0, [(3, .pt 0 (.one (.arr 8 .leaf)) []), (4, .pt 1 r15 []), (5, .pt 2 r15 [])], [.var 25 (.d c1), .var 33 (.ag [.d c1, .wn 3 c14, .wn 4 c6, .d c16, .d (.arr 8 .bool)]), .var 33 (.ag [.d c1, .wn 5 c14, .ws 6 c6, .d c16, .d (.arr 8 .bool)]), .row 49 c14, .row 45 c6, .row 49 c14, .row 45 c6]⟩
def z6o : XS := .one (.exit 0) zhn.xe
theorem zqx : z6o.OK := XS.one_ok (z0c zhn)
def z6s : Shp := ⟨41, 0, [(3, .pt 0 (.one (.arr 8 .leaf)) []), (4, .pt 1 r15 []), (5, .pt 2 r15 []), (17, .d (.int .i64)), (18, .d (.int .i64))], [.var 25 (.d c1), .var 33 (.ag [.d c1, .wn 3 c14, .wn 4 c6, .d c16, .d (.arr 8 .bool)]), .var 33 (.ag [.d c1, .wn 5 c14, .ws 6 c6, .d c16, .d (.arr 8 .bool)]), .row 49 c14, .row 45 c6, .row 49 c14, .row 45 c6]⟩
abbrev zdm := Int × Int × (List Int) × (List Int) × (List Int) × (List Bool) × (List Int) × (List Bool) × (List Int) × (List Bool) × (List T4) × (List T2) × (List T4) × (List T2)
abbrev zir := ((List Int) × (List Int) × (List Int) × (List Bool) × (List Int) × (List Bool) × (List Int) × (List Bool) × (List T4) × (List T2) × (List T4) × (List T2))
def zd6 (t17 : Int) (t18 : Int) (base : List Int) (t4 : List Int) (t42 : List Int) (t43 : List Bool) (out : List Int) (out2 : List Bool) (out3 : List Int) (out4 : List Bool) (t44 : List T4) (t45 : List T2) (out5 : List T4) (out6 : List T2) : Option (zdm ⊕ zir) :=
 bif ltI t18 t17 then
 bif inI t18 (List.length out5) then
 (out5[t18.toNat]?).bind fun x =>
 (zon x.2.2.2.2.2 base).bind fun r =>
 (out5[t18.toNat]?).bind fun x2 =>
 bif Nat.beq (List.length t44) (List.length t44) then
 bif Nat.beq (List.length t45) (List.length t45) then
 bif Nat.beq (List.length out5) (List.length (out5.set t18.toNat (x2.1, x2.2.1, x2.2.2.1, x2.2.2.2.1, x2.2.2.2.2.1, r))) then
 some (.inl (t17, W64 (t18 + 1), base, t4, t42, t43, out, (List.replicate (lenW out2) true), out3, out4, t44, t45, out5.set t18.toNat (x2.1, x2.2.1, x2.2.2.1, x2.2.2.2.1, x2.2.2.2.2.1, r), out6))
 else none
 else none
 else none
 else none
 else
 bif Nat.beq (List.length t44) (List.length t44) then
 bif Nat.beq (List.length t45) (List.length t45) then
 bif Nat.beq (List.length out5) (List.length out5) then
 some (.inr (base, t4, t42, t43, out, (List.replicate (lenW out2) true), out3, out4, t44, t45, out5, out6))
 else none
 else none
 else none
def z3d (s : zdm) : Option (zdm ⊕ zir) := zd6 s.1 s.2.1 s.2.2.1 s.2.2.2.1 s.2.2.2.2.1 s.2.2.2.2.2.1 s.2.2.2.2.2.2.1 s.2.2.2.2.2.2.2.1 s.2.2.2.2.2.2.2.2.1 s.2.2.2.2.2.2.2.2.2.1 s.2.2.2.2.2.2.2.2.2.2.1 s.2.2.2.2.2.2.2.2.2.2.2.1 s.2.2.2.2.2.2.2.2.2.2.2.2.1 s.2.2.2.2.2.2.2.2.2.2.2.2.2
theorem zrv : SoundD Try.prog (.loop (subC (bodyC Try.f12) [1, 1, 1, 0, 1, 0, 0])) (loopD z6s.xe z6o (loopC z3d)) :=
 z0w (S := z6s.xe) (X := z6o) zvu (h := .no) (z0p [] (by kernel_rfl) trivial) (z0c z6s) zqx z3d (fun s => by kernel_rfl)
def zvl : Shp := ⟨1, 0, [(0, .d c17)], []⟩
def z10p : XS := .one .ret zvl.xe
theorem z1b6 : z10p.OK := XS.one_ok (z0c zvl)
def zc7 (t0 : T5) (base : List Int) : Option ((T5)) :=
 (zos t0).bind fun r =>
 bif Nat.beq (List.length r.2.2.2.2) (List.length r.2.2.2.2) then
 (zor base r.2.2.2.2).bind fun r2 =>
 z0u (List.length r.2.2.2.1) (
 bif Nat.beq 0 (List.length ([] : List T4)) then
 bif Nat.beq 0 (List.length ([] : List T2)) then
 bif Nat.beq (List.length r.2.2.2.1) (List.length r.2.2.2.1) then
 (loopC z3d ((List.length r.2.2.2.1 : Nat), 0, base, List.replicate 8 (0 : Int), List.replicate 8 (0 : Int), List.replicate 8 false, r.1, (List.replicate (lenW r2.1) true), r.2.1, r.2.2.1, ([] : List T4), ([] : List T2), r.2.2.2.1, r2.2.2)).bind fun o =>
 bif Nat.beq (List.length o.2.2.2.2.2.2.2.2.2.2.1) (List.length o.2.2.2.2.2.2.2.2.2.2.1) then
 bif Nat.beq (List.length o.2.2.2.2.2.2.2.2.2.2.1) (List.length o.2.2.2.2.2.2.2.2.2.2.1) then
 (zfd o.2.2.2.2.2.2.2.2.2.2.1 o.2.2.2.2.1 (List.replicate (lenW o.2.2.2.2.2.1) true) o.2.2.2.2.2.2.1 o.2.2.2.2.2.2.2.1 o.1 o.2.2.2.2.2.2.2.2.2.2.2).bind fun r3 =>
 winK r3.2.1 0 (lenW r3.1) fun w =>
 winK r3.2.2.2.2.2.2.2 0 (lenW r3.2.2.2.1) fun w2 =>
 some (r3.2.2.1, w, w2, r3.2.2.2.2.1, r3.2.2.2.2.2.1)
 else none
 else none
 else none
 else none
 else none)
 else none
def zqp : Sig := ⟨12, [.d c17, .d c1], [], 0, z10p⟩
def zou (x : T5 × (List Int)) : Option ((T5)) := zc7 x.1 x.2
theorem zxu : FnOK Try.prog zqp zou :=
 fn_ok zvu (h := (.two .no (.two .no (.two .no (.two (.two .no (.over (loopD z6s.xe z6o (loopC z3d)))) .no))))) Try.func12 (z0p [.den (.loop (subC (bodyC Try.f12) [1, 1, 1, 0, 1, 0, 0])) (loopD z6s.xe z6o (loopC z3d))] (by kernel_rfl) ⟨zrv, trivial⟩) (by kernel_rfl) z1b6 (fun x => by kernel_rfl)
def z1l3 : Env := ⟨[], [], []⟩
theorem z1gx : EnvsOK Try.prog z1l3 := ⟨z0x _, z0s _, z0t _⟩
def z11f : Shp := ⟨1, 0, [(0, .d .bool)], []⟩
def z18o : XS := .one .ret z11f.xe
theorem z1ez : z18o.OK := XS.one_ok (z0c z11f)
def ztc (x : T2) : Option ((Bool)) :=
 some (eqU c1 x.2.2.2.2 (List.replicate 8 (0 : Int)))
def z17x : Sig := ⟨45, [.d c6], [], 0, z18o⟩
def z14t (x : T2) : Option ((Bool)) := ztc x
theorem z1ip : FnOK Try.prog z17x z14t :=
 fn_ok z1gx (h := .no) Try.func45 (z0p [] (by kernel_rfl) trivial) (by kernel_rfl) z1ez (fun x => by kernel_rfl)
def z1nk : Env := ⟨[(entQ z17x z14t), (entQ zsr zrg), (entQ zsx zrk)], [], []⟩
theorem zmj : EnvsOK Try.prog z1nk := ⟨z0o (z0q z1ip) (z0o (z0q z10j) (z0o (z0q z10a) (z0x _))), z0s _, z0t _⟩
def zlj : Shp := ⟨53, 0, [(1, .pt 0 r15 []), (3, .d (.int .i64))], [.var 33 (.d c17)]⟩
def zao : XS := .one (.exit 0) zlj.xe
theorem zwk : zao.OK := XS.one_ok (z0c zlj)
def zax : Shp := ⟨53, 0, [(1, .pt 0 r15 []), (3, .d (.int .i64)), (11, .d c5), (12, .d (.int .i64)), (13, .d (.int .i64))], [.var 33 (.d c17)]⟩
abbrev zhb := Int × (List T2) × Int × Int × T5
abbrev znx := (Int × T5)
def zh6 (n : Int) (t11 : List T2) (t12 : Int) (t13 : Int) (t1 : T5) : Option (zhb ⊕ znx) :=
 bif ltI t13 t12 then
 (idxI t11 t13).bind fun x =>
 (ztc x).bind fun r =>
 bif !r then
 some (.inl (W64 (n + 1), t11, t12, W64 (t13 + 1), t1))
 else
 some (.inl (n, t11, t12, W64 (t13 + 1), t1))
 else
 some (.inr (n, t1))
def z3x (s : zhb) : Option (zhb ⊕ znx) := zh6 s.1 s.2.1 s.2.2.1 s.2.2.2.1 s.2.2.2.2
theorem zyl : SoundD Try.prog (.loop (subC (bodyC Try.f15) [1, 1, 0, 1, 0, 0])) (loopD zax.xe zao (loopC z3x)) :=
 z0w (S := zax.xe) (X := zao) zmj (h := .no) (z0p [] (by kernel_rfl) trivial) (z0c zax) zwk z3x (fun s => by kernel_rfl)
def zae : Shp := ⟨53, 0, [(1, .pt 0 r15 []), (3, .d (.int .i64)), (7, .pt 1 r13 []), (24, .d c18), (25, .d (.int .i64)), (26, .d (.int .i64))], [.var 33 (.d c17), .var 49 (.d c14)]⟩
def z2q : XS := .one (.exit 4) zae.xe
theorem zgb : z2q.OK := XS.one_ok (z0c zae)
def z2o : Shp := ⟨53, 0, [(1, .pt 0 r15 []), (3, .d (.int .i64)), (7, .pt 1 r13 []), (24, .d c18), (25, .d (.int .i64)), (26, .d (.int .i64)), (31, .d c10), (32, .d (.int .i64)), (33, .d (.int .i64))], [.var 33 (.d c17), .var 49 (.d c14)]⟩
abbrev z5p := Int × (List T4) × Int × Int × (List T3) × Int × Int × T5 × T4
abbrev zbc := (Int × (List T4) × Int × Int × T5 × T4)
def z5w (n : Int) (t24 : List T4) (t25 : Int) (t26 : Int) (t31 : List T3) (t32 : Int) (t33 : Int) (t1 : T5) (o : T4) : Option (z5p ⊕ zbc) :=
 bif ltI t33 t32 then
 (idxI t31 t33).bind fun x =>
 (zr0 x).bind fun r =>
 bif !r then
 some (.inl (W64 (n + 1), t24, t25, t26, t31, t32, W64 (t33 + 1), t1, o))
 else
 some (.inl (n, t24, t25, t26, t31, t32, W64 (t33 + 1), t1, o))
 else
 some (.inr (n, t24, t25, t26, t1, o))
def z1h (s : z5p) : Option (z5p ⊕ zbc) := z5w s.1 s.2.1 s.2.2.1 s.2.2.2.1 s.2.2.2.2.1 s.2.2.2.2.2.1 s.2.2.2.2.2.2.1 s.2.2.2.2.2.2.2.1 s.2.2.2.2.2.2.2.2
theorem zgv : SoundD Try.prog (.loop (subC (bodyC Try.f15) [1, 1, 1, 0, 1, 0, 0, 1, 1, 0, 0, 1, 0, 1, 0, 0])) (loopD z2o.xe z2q (loopC z1h)) :=
 z0w (S := z2o.xe) (X := z2q) zmj (h := .no) (z0p [] (by kernel_rfl) trivial) (z0c z2o) zgb z1h (fun s => by kernel_rfl)
def zjp : Shp := ⟨53, 0, [(3, .d (.int .i64))], []⟩
def z8q : XS := .one (.exit 2) zjp.xe
theorem zub : z8q.OK := XS.one_ok (z0c zjp)
def z8u : Shp := ⟨53, 0, [(1, .pt 0 r15 []), (3, .d (.int .i64)), (24, .d c18), (25, .d (.int .i64)), (26, .d (.int .i64))], [.var 33 (.d c17)]⟩
abbrev zew := Int × (List T4) × Int × Int × T5
abbrev zlk := (Int)
def zf2 (n : Int) (t24 : List T4) (t25 : Int) (t26 : Int) (t1 : T5) : Option (zew ⊕ zlk) :=
 bif ltI t26 t25 then
 (idxI t24 t26).bind fun x =>
 z0u (List.length x.2.2.2.2.2) (
 (loopC z1h (n, t24, t25, t26, x.2.2.2.2.2, (List.length x.2.2.2.2.2 : Nat), 0, t1, x)).bind fun o =>
 (zl3 o.2.2.2.2.1 o.2.2.2.2.2 o.2.2.2.2.1.1).bind fun r =>
 bif !r then
 some (.inl (W64 (o.1 + 1), o.2.1, o.2.2.1, W64 (o.2.2.2.1 + 1), o.2.2.2.2.1))
 else
 some (.inl (o.1, o.2.1, o.2.2.1, W64 (o.2.2.2.1 + 1), o.2.2.2.2.1)))
 else
 some (.inr n)
def z4j (s : zew) : Option (zew ⊕ zlk) := zf2 s.1 s.2.1 s.2.2.1 s.2.2.2.1 s.2.2.2.2
theorem zv0 : SoundD Try.prog (.loop (subC (bodyC Try.f15) [1, 1, 1, 0, 1, 0, 0])) (loopD z8u.xe z8q (loopC z4j)) :=
 z0w (S := z8u.xe) (X := z8q) zmj (h := (.two .no (.two .no (.two (.two .no (.two (.two .no (.over (loopD z2o.xe z2q (loopC z1h)))) .no)) .no)))) (z0p [.den (.loop (subC (bodyC Try.f15) [1, 1, 1, 0, 1, 0, 0, 1, 1, 0, 0, 1, 0, 1, 0, 0])) (loopD z2o.xe z2q (loopC z1h))] (by kernel_rfl) ⟨zgv, trivial⟩) (z0c z8u) zub z4j (fun s => by kernel_rfl)
def z15e : Shp := ⟨1, 0, [(0, .d (.int .i64))], []⟩
def z1bk : XS := .one .ret z15e.xe
theorem z1hu : z1bk.OK := XS.one_ok (z0c z15e)
def zwb (t0 : T5) : Option ((Int)) :=
 z0u (List.length t0.2.2.1) (
 (loopC z3x (0, t0.2.2.1, (List.length t0.2.2.1 : Nat), 0, t0)).bind fun o =>
 z0u (List.length o.2.2.1) (
 (loopC z4j (o.1, o.2.2.1, (List.length o.2.2.1 : Nat), 0, o.2)).bind fun o2 =>
 some o2))
def z1ap : Sig := ⟨15, [.d c17], [], 0, z1bk⟩
def z17k (x : T5) : Option ((Int)) := zwb x
theorem z1lh : FnOK Try.prog z1ap z17k :=
 fn_ok zmj (h := (.two .no (.two .no (.two (.two .no (.over (loopD zax.xe zao (loopC z3x)))) (.two (.two .no (.over (loopD z8u.xe z8q (loopC z4j)))) .no))))) Try.func15 (z0p [.den (.loop (subC (bodyC Try.f15) [1, 1, 0, 1, 0, 0])) (loopD zax.xe zao (loopC z3x)), .den (.loop (subC (bodyC Try.f15) [1, 1, 1, 0, 1, 0, 0])) (loopD z8u.xe z8q (loopC z4j))] (by kernel_rfl) ⟨zyl, zv0, trivial⟩) (by kernel_rfl) z1hu (fun x => by kernel_rfl)
def z1lq : Env := ⟨[(entQ zv4 zsp), (entQ zqp zou), (entQ z1ap z17k)], [], []⟩
theorem z1hr : EnvsOK Try.prog z1lq := ⟨z0o (z0q z15i) (z0o (z0q zxu) (z0o (z0q z1lh) (z0x _))), z0s _, z0t _⟩
def zzl : Shp := ⟨1, 0, [(0, .d .bool)], []⟩
def z17b : XS := .one .ret zzl.xe
theorem z1fi : z17b.OK := XS.one_ok (z0c zzl)
def zd2  : Option ((Bool)) :=
 (zem (([((1, 1), List.replicate 8 (0 : Int), 1, (0, 0), (0, 0), ([97] : List Int), [], [], 0, [], 0), ((1, 2), (List.replicate 8 (0 : Int)).set 0 1, 6, (1, 1), (0, 0), [], ([(1, 1)] : List T0), [], 0, [], 0)] : List T1))).bind fun r =>
 (zc7 r ((List.replicate 8 (0 : Int)).set 0 1)).bind fun r2 =>
 (zc7 r ((List.replicate 8 (0 : Int)).set 0 2)).bind fun r3 =>
 z0u (List.length r2.2.2.1) (
 bif eqI (List.length r2.2.2.1 : Nat) 1 then
 z0u (List.length r2.2.1) (
 bif eqI (List.length r2.2.1 : Nat) 1 then
 z0u (List.length r3.2.2.1) (
 z0u (List.length r3.2.1) (
 bif eqI (W64 ((List.length r3.2.2.1 : Nat) + (List.length r3.2.1 : Nat))) 0 then
 bif eqU c1 r3.1 r.1 then
 (zwb r).bind fun r4 =>
 some (eqI r4 1)
 else
 some false
 else
 some false))
 else
 some false)
 else
 some false)
def z18g : Sig := ⟨8, [], [], 0, z17b⟩
def z13e (x : Unit) : Option ((Bool)) := zd2 
theorem z1j6 : FnOK Try.prog z18g z13e :=
 fn_ok z1hr (h := .no) Try.func8 (z0p [] (by kernel_rfl) trivial) (by kernel_rfl) z1fi (fun x => by kernel_rfl)
def z1la : Env := ⟨[], [], []⟩
theorem z10m : EnvsOK Try.prog z1la := ⟨z0x _, z0s _, z0t _⟩
def zf5 : Shp := ⟨41, 0, [(2, .pt 0 (.one (.arr 8 .leaf)) []), (3, .pt 1 (.one (.arr 8 .leaf)) []), (5, .d .bool), (6, .d .bool), (7, .d (.int .i64))], [.var 25 (.d c1), .var 25 (.d c1)]⟩
def zbt : XS := .one .normal zf5.xe
theorem zo8 : zbt.OK := XS.one_ok (z0c zf5)
def zkm : Shp := ⟨41, 0, [(5, .d .bool), (6, .d .bool)], []⟩
def z9w : XS := .one (.exit 0) zkm.xe
theorem zuu : z9w.OK := XS.one_ok (z0c zkm)
def z9n : Shp := ⟨41, 0, [(2, .pt 0 (.one (.arr 8 .leaf)) []), (3, .pt 1 (.one (.arr 8 .leaf)) []), (5, .d .bool), (6, .d .bool), (7, .d (.int .i64))], [.var 25 (.d c1), .var 25 (.d c1)]⟩
abbrev zfn := Bool × Bool × Int × (List Int) × (List Int)
abbrev zmw := (Bool × Bool)
def zfj (less : Bool) (more : Bool) (i : Int) (a : List Int) (b : List Int) : Option (zfn ⊕ zmw) :=
 bif ltI i 8 then
 (show Option ((Bool × Bool × Int × (List Int) × (List Int))) from
 bif less then
 some (true, more, i, a, b)
 else
 bif inI i 8 then
 (a[i.toNat]?).bind fun x =>
 bif inI i 8 then
 (b[i.toNat]?).bind fun x2 =>
 some (ltI x x2, more, i, a, b)
 else none
 else none).bind fun j =>
 bif j.2.1 then
 some (.inl (j.1, true, W64 (j.2.2.1 + 1), j.2.2.2.1, j.2.2.2.2))
 else
 bif inI j.2.2.1 8 then
 (j.2.2.2.1[j.2.2.1.toNat]?).bind fun x3 =>
 bif inI j.2.2.1 8 then
 (j.2.2.2.2[j.2.2.1.toNat]?).bind fun x4 =>
 some (.inl (j.1, ltI x4 x3, W64 (j.2.2.1 + 1), j.2.2.2.1, j.2.2.2.2))
 else none
 else none
 else
 some (.inr (less, more))
def z4s (s : zfn) : Option (zfn ⊕ zmw) := zfj s.1 s.2.1 s.2.2.1 s.2.2.2.1 s.2.2.2.2
theorem zwr : SoundD Try.prog (.loop (subC (bodyC Try.f52) [1, 1, 0, 1, 0, 0])) (loopD z9n.xe z9w (loopC z4s)) :=
 z0w (S := z9n.xe) (X := z9w) z10m (h := (.two .no (.two (.join (fun _ => zbt) .no .no) .no))) (z0p [.xs (fun _ => zbt)] (by kernel_rfl) ⟨(z2j zo8), trivial⟩) (z0c z9n) zuu z4s (fun s => by kernel_rfl)
def zlw : Shp := ⟨41, 0, [(5, .d .bool), (6, .d .bool), (32, .d .bool)], []⟩
def zh9 : XS := .one .normal zlw.xe
theorem zwo : zh9.OK := XS.one_ok (z0c zlw)
def zzx : Shp := ⟨1, 0, [(0, .d (.int .i64))], []⟩
def z17l : XS := .one .ret zzx.xe
theorem z1f6 : z17l.OK := XS.one_ok (z0c zzx)
def z11o (a : List Int) (b : List Int) : Option ((Int)) :=
 (loopC z4s (false, false, 0, a, b)).bind fun o =>
 (show Option ((Bool × Bool × Bool)) from
 bif o.1 then
 some (o.1, o.2, o.2)
 else
 some (o.1, o.2, false)).bind fun j =>
 bif j.2.2 then
 some 2
 else
 bif j.1 then
 some (-1)
 else
 bif j.2.1 then
 some 1
 else
 some 0
def z18l : Sig := ⟨52, [.d c1, .d c1], [], 0, z17l⟩
def z13d (x : (List Int) × (List Int)) : Option ((Int)) := z11o x.1 x.2
theorem z1jj : FnOK Try.prog z18l z13d :=
 fn_ok z10m (h := (.two .no (.two .no (.two (.two .no (.over (loopD z9n.xe z9w (loopC z4s)))) (.two (.join (fun _ => zh9) .no .no) .no))))) Try.func52 (z0p [.den (.loop (subC (bodyC Try.f52) [1, 1, 0, 1, 0, 0])) (loopD z9n.xe z9w (loopC z4s)), .xs (fun _ => zh9)] (by kernel_rfl) ⟨zwr, (z2j zwo), trivial⟩) (by kernel_rfl) z1f6 (fun x => by kernel_rfl)
def z1op : Env := ⟨[(entQ z18l z13d)], [], []⟩
theorem z1lb : EnvsOK Try.prog z1op := ⟨z0o (z0q z1jj) (z0x _), z0s _, z0t _⟩
def z17w : Shp := ⟨1, 0, [(0, .d .bool)], []⟩
def z1dm : XS := .one .ret z17w.xe
theorem z1j0 : z1dm.OK := XS.one_ok (z0c z17w)
def zzq (a : List Int) (b : List Int) : Option ((Bool)) :=
 (z11o a b).bind fun r =>
 some (leI r 0)
def z1dl : Sig := ⟨27, [.d c1, .d c1], [], 0, z1dm⟩
def z19p (x : (List Int) × (List Int)) : Option ((Bool)) := zzq x.1 x.2
theorem z1n4 : FnOK Try.prog z1dl z19p :=
 fn_ok z1lb (h := .no) Try.func27 (z0p [] (by kernel_rfl) trivial) (by kernel_rfl) z1j0 (fun x => by kernel_rfl)
def z1nx : Env := ⟨[], [], []⟩
theorem z14i : EnvsOK Try.prog z1nx := ⟨z0x _, z0s _, z0t _⟩
def zl4 : Shp := ⟨37, 0, [], []⟩
def zlh : Shp := ⟨37, 0, [(2, .d .bool)], []⟩
def zac : XS := .or (.exit 0) zl4.xe (.one .ret zlh.xe)
theorem zw2 : zac.OK := XS.or_ok (z0c zl4) (XS.one_ok (z0c zlh))
def zar : Shp := ⟨37, 0, [(8, .d c3), (9, .d (.int .i64)), (10, .d (.int .i64))], []⟩
abbrev zgq := (List T1) × Int × Int
abbrev znu := (Unit) ⊕ (Bool)
def zhe (t8 : List T1) (t9 : Int) (t10 : Int) : Option (zgq ⊕ znu) :=
 bif ltI t10 t9 then
 (idxI t8 t10).bind fun x =>
 z0u (List.length x.2.2.2.2.2.1) (
 bif ltI 30 (List.length x.2.2.2.2.2.1 : Nat) then
 some (.inr (.inr false))
 else
 z0u (List.length x.2.2.2.2.2.2.2.2.2.1) (
 bif ltI 250 (List.length x.2.2.2.2.2.2.2.2.2.1 : Nat) then
 some (.inr (.inr false))
 else
 z0u (List.length x.2.2.2.2.2.2.1) (
 bif ltI 10 (List.length x.2.2.2.2.2.2.1 : Nat) then
 some (.inr (.inr false))
 else
 z0u (List.length x.2.2.2.2.2.2.2.1) (
 bif ltI 10 (List.length x.2.2.2.2.2.2.2.1 : Nat) then
 some (.inr (.inr false))
 else
 some (.inl (t8, t9, W64 (t10 + 1)))))))
 else
 some (.inr (.inl ()))
def z5i (s : zgq) : Option (zgq ⊕ znu) := zhe s.1 s.2.1 s.2.2
theorem zyy : SoundD Try.prog (.loop (subC (bodyC Try.f9) [1, 1, 0, 1, 0, 0])) (loopD zar.xe zac (loopC z5i)) :=
 z0w (S := zar.xe) (X := zac) z14i (h := .no) (z0p [] (by kernel_rfl) trivial) (z0c zar) zw2 z5i (fun s => by kernel_rfl)
def z12j : Shp := ⟨1, 0, [(0, .d .bool)], []⟩
def z1ce : XS := .one .ret z12j.xe
theorem z1i8 : z1ce.OK := XS.one_ok (z0c z12j)
def zqn (l : List T1) : Option ((Bool)) :=
 z0u (List.length l) (
 bif ltI 25 (List.length l : Nat) then
 some false
 else
 z0u (List.length l) (
 (loopC z5i (l, (List.length l : Nat), 0)).bind fun o =>
 Sum.elim (fun y =>
 some true) (fun y2 =>
 some y2) o))
def z1ae : Sig := ⟨9, [.d c3], [], 0, z1ce⟩
def z18j (x : (List T1)) : Option ((Bool)) := zqn x
theorem z1l9 : FnOK Try.prog z1ae z18j :=
 fn_ok z14i (h := (.two .no (.two .no (.two (.two .no (.over (loopD zar.xe zac (loopC z5i)))) .no)))) Try.func9 (z0p [.den (.loop (subC (bodyC Try.f9) [1, 1, 0, 1, 0, 0])) (loopD zar.xe zac (loopC z5i))] (by kernel_rfl) ⟨zyy, trivial⟩) (by kernel_rfl) z1i8 (fun x => by kernel_rfl)
def z1p8 : Env := ⟨[(entQ zoi zkw)], [], []⟩
theorem z1lp : EnvsOK Try.prog z1p8 := ⟨z0o (z0q zr9) (z0x _), z0s _, z0t _⟩
def z17m : Shp := ⟨1, 0, [(0, .d .bool)], []⟩
def z1dp : XS := .one .ret z17m.xe
theorem z1iy : z1dp.OK := XS.one_ok (z0c z17m)
def zl6 (v : List Int) (id : T0) : Option ((Bool)) :=
 bif ltI 0 id.2 then
 (zll v id.1).bind fun r =>
 some (leI id.2 r)
 else
 some false
def zte : Sig := ⟨58, [.d c1, .d c0], [], 0, z1dp⟩
def zr7 (x : (List Int) × T0) : Option ((Bool)) := zl6 x.1 x.2
theorem zyk : FnOK Try.prog zte zr7 :=
 fn_ok z1lp (h := .no) Try.func58 (z0p [] (by kernel_rfl) trivial) (by kernel_rfl) z1iy (fun x => by kernel_rfl)
def z1o3 : Env := ⟨[], [], []⟩
theorem z1j2 : EnvsOK Try.prog z1o3 := ⟨z0x _, z0s _, z0t _⟩
def z13c : Shp := ⟨1, 0, [(0, .d .bool)], []⟩
def z1bd : XS := .one .ret z13c.xe
theorem z1gn : z1bd.OK := XS.one_ok (z0c z13c)
def zjc (x : T0) : Option ((Bool)) :=
 bif eqI x.1 0 then
 some (eqI x.2 0)
 else
 some false
def zz3 : Sig := ⟨80, [.d c0], [], 0, z1bd⟩
def zv3 (x : T0) : Option ((Bool)) := zjc x
theorem z18a : FnOK Try.prog zz3 zv3 :=
 fn_ok z1j2 (h := .no) Try.func80 (z0p [] (by kernel_rfl) trivial) (by kernel_rfl) z1gn (fun x => by kernel_rfl)
def z1nr : Env := ⟨[(entQ zte zr7), (entQ zba za5)], [], []⟩
theorem z13z : EnvsOK Try.prog z1nr := ⟨z0o (z0q zyk) (z0o (z0q zbx) (z0x _)), z0s _, z0t _⟩
def zno : Shp := ⟨36, 0, [], []⟩
def zns : Shp := ⟨36, 0, [(4, .d .bool)], []⟩
def zbo : XS := .or (.exit 0) zno.xe (.one .ret zns.xe)
theorem zz9 : zbo.OK := XS.or_ok (z0c zno) (XS.one_ok (z0c zns))
def zc2 : Shp := ⟨36, 0, [(0, .d c4), (3, .pt 0 (.one (.arr 8 .leaf)) []), (5, .d (.int .i64))], [.var 25 (.d c1)]⟩
abbrev zj8 := (List T0) × Int × (List Int)
abbrev zqz := (Unit) ⊕ (Bool)
def ziw (l : List T0) (i : Int) (t3 : List Int) : Option (zj8 ⊕ zqz) :=
 z0u (List.length l) (
 bif ltI i (List.length l : Nat) then
 (idxI l i).bind fun x =>
 (zl6 t3 x).bind fun r =>
 bif !r then
 some (.inr (.inr false))
 else
 bif ltI 0 i then
 (idxI l (W64 (i - 1))).bind fun x2 =>
 (idxI l i).bind fun x3 =>
 (zas x2 x3).bind fun r2 =>
 bif !r2 then
 some (.inr (.inr false))
 else
 some (.inl (l, W64 (i + 1), t3))
 else
 some (.inl (l, W64 (i + 1), t3))
 else
 some (.inr (.inl ())))
def z6v (s : zj8) : Option (zj8 ⊕ zqz) := ziw s.1 s.2.1 s.2.2
theorem z11u : SoundD Try.prog (.loop (subC (bodyC Try.f81) [1, 0, 1, 0, 0])) (loopD zc2.xe zbo (loopC z6v)) :=
 z0w (S := zc2.xe) (X := zbo) z13z (h := .no) (z0p [] (by kernel_rfl) trivial) (z0c zc2) zz9 z6v (fun s => by kernel_rfl)
def z14r : Shp := ⟨1, 0, [(0, .d .bool)], []⟩
def z1ao : XS := .one .ret z14r.xe
theorem z1hq : z1ao.OK := XS.one_ok (z0c z14r)
def zmp (l : List T0) (t1 : List Int) : Option ((Bool)) :=
 (loopC z6v (l, 0, t1)).bind fun o =>
 Sum.elim (fun y =>
 some true) (fun y2 =>
 some y2) o
def z1b8 : Sig := ⟨81, [.d c4, .d c1], [], 0, z1ao⟩
def z18t (x : (List T0) × (List Int)) : Option ((Bool)) := zmp x.1 x.2
theorem z1ld : FnOK Try.prog z1b8 z18t :=
 fn_ok z13z (h := (.two .no (.two (.two .no (.over (loopD zc2.xe zbo (loopC z6v)))) .no))) Try.func81 (z0p [.den (.loop (subC (bodyC Try.f81) [1, 0, 1, 0, 0])) (loopD zc2.xe zbo (loopC z6v))] (by kernel_rfl) ⟨z11u, trivial⟩) (by kernel_rfl) z1hq (fun x => by kernel_rfl)
def z1mb : Env := ⟨[], [], []⟩
theorem z13x : EnvsOK Try.prog z1mb := ⟨z0x _, z0s _, z0t _⟩
def zeo : Shp := ⟨72, 0, [(0, .d .str), (3, .d (.int .i64)), (4, .d (.int .u8)), (5, .d .bool), (6, .d .bool), (7, .d .bool)], []⟩
def zbg : XS := .one .normal zeo.xe
theorem zn8 : zbg.OK := XS.one_ok (z0c zeo)
def zlx : Shp := ⟨72, 0, [], []⟩
def zkv : Shp := ⟨72, 0, [(2, .d .bool)], []⟩
def za9 : XS := .or (.exit 0) zlx.xe (.one .ret zkv.xe)
theorem zvx : za9.OK := XS.or_ok (z0c zlx) (XS.one_ok (z0c zkv))
def zad : Shp := ⟨72, 0, [(0, .d .str), (3, .d (.int .i64))], []⟩
abbrev zha := (List Int) × Int
abbrev zng := (Unit) ⊕ (Bool)
def zh8 (t0 : List Int) (i : Int) : Option (zha ⊕ zng) :=
 z0u (List.length t0) (
 bif ltI i (List.length t0 : Nat) then
 (idxI t0 i).bind fun x =>
 (show Option (((List Int) × Int × Int × Bool × Bool × Bool)) from
 bif leI 97 x then
 bif leI 65 x then
 bif leI 48 x then
 some (t0, i, x, leI x 122, leI x 90, leI x 57)
 else
 some (t0, i, x, leI x 122, leI x 90, false)
 else
 bif leI 48 x then
 some (t0, i, x, leI x 122, false, leI x 57)
 else
 some (t0, i, x, leI x 122, false, false)
 else
 bif leI 65 x then
 bif leI 48 x then
 some (t0, i, x, false, leI x 90, leI x 57)
 else
 some (t0, i, x, false, leI x 90, false)
 else
 bif leI 48 x then
 some (t0, i, x, false, false, leI x 57)
 else
 some (t0, i, x, false, false, false)).bind fun j =>
 bif !j.2.2.2.1 then
 bif !j.2.2.2.2.1 then
 bif !j.2.2.2.2.2 then
 bif neI j.2.2.1 46 then
 bif neI j.2.2.1 95 then
 bif neI j.2.2.1 45 then
 some (.inr (.inr false))
 else
 some (.inl (j.1, W64 (j.2.1 + 1)))
 else
 some (.inl (j.1, W64 (j.2.1 + 1)))
 else
 some (.inl (j.1, W64 (j.2.1 + 1)))
 else
 some (.inl (j.1, W64 (j.2.1 + 1)))
 else
 some (.inl (j.1, W64 (j.2.1 + 1)))
 else
 some (.inl (j.1, W64 (j.2.1 + 1)))
 else
 some (.inr (.inl ())))
def z5d (s : zha) : Option (zha ⊕ zng) := zh8 s.1 s.2
theorem zyi : SoundD Try.prog (.loop (subC (bodyC Try.f82) [1, 1, 0, 1, 0, 0])) (loopD zad.xe za9 (loopC z5d)) :=
 z0w (S := zad.xe) (X := za9) z13x (h := (.two .no (.two (.two .no (.join (fun _ => zbg) .no .no)) .no))) (z0p [.xs (fun _ => zbg)] (by kernel_rfl) ⟨(z2j zn8), trivial⟩) (z0c zad) zvx z5d (fun s => by kernel_rfl)
def z12t : Shp := ⟨1, 0, [(0, .d .bool)], []⟩
def z19y : XS := .one .ret z12t.xe
theorem z1i3 : z19y.OK := XS.one_ok (z0c z12t)
def zr5 (t0 : List Int) : Option ((Bool)) :=
 bif eqS t0 ([] : List Int) then
 some false
 else
 z0u (List.length t0) (
 bif ltI 12 (List.length t0 : Nat) then
 some false
 else
 bif eqS t0 ([46] : List Int) then
 some false
 else
 bif eqS t0 ([46, 46] : List Int) then
 some false
 else
 (loopC z5d (t0, 0)).bind fun o =>
 Sum.elim (fun y =>
 some true) (fun y2 =>
 some y2) o)
def z1ah : Sig := ⟨82, [.d .str], [], 0, z19y⟩
def z17f (x : (List Int)) : Option ((Bool)) := zr5 x
theorem z1kz : FnOK Try.prog z1ah z17f :=
 fn_ok z13x (h := (.two .no (.two .no (.two (.two .no (.over (loopD zad.xe za9 (loopC z5d)))) .no)))) Try.func82 (z0p [.den (.loop (subC (bodyC Try.f82) [1, 1, 0, 1, 0, 0])) (loopD zad.xe za9 (loopC z5d))] (by kernel_rfl) ⟨zyi, trivial⟩) (by kernel_rfl) z1i3 (fun x => by kernel_rfl)
def z1m0 : Env := ⟨[(entQ zz3 zv3)], [], []⟩
theorem z1ig : EnvsOK Try.prog z1m0 := ⟨z0o (z0q z18a) (z0x _), z0s _, z0t _⟩
def z14c : Shp := ⟨1, 0, [(0, .d .bool)], []⟩
def z1cc : XS := .one .ret z14c.xe
theorem z1g6 : z1cc.OK := XS.one_ok (z0c z14c)
def zb1 (t0 : T1) (obj : Bool) (dir : Bool) (gone : Bool) (base : Bool) (off : Bool) (data : Bool) (ward : Bool) : Option ((Bool)) :=
 bif obj then
 bif dir then
 bif gone then
 bif base then
 bif off then
 bif data then
 bif ward then
 some true
 else
 some (eqI t0.2.2.2.2.2.2.2.2.2.2 0)
 else
 bif eqS t0.2.2.2.2.2.2.2.2.2.1 ([] : List Int) then
 bif ward then
 some true
 else
 some (eqI t0.2.2.2.2.2.2.2.2.2.2 0)
 else
 some false
 else
 bif eqI t0.2.2.2.2.2.2.2.2.1 0 then
 bif data then
 bif ward then
 some true
 else
 some (eqI t0.2.2.2.2.2.2.2.2.2.2 0)
 else
 bif eqS t0.2.2.2.2.2.2.2.2.2.1 ([] : List Int) then
 bif ward then
 some true
 else
 some (eqI t0.2.2.2.2.2.2.2.2.2.2 0)
 else
 some false
 else
 some false
 else
 z0u (List.length t0.2.2.2.2.2.2.2.1) (
 bif eqI (List.length t0.2.2.2.2.2.2.2.1 : Nat) 0 then
 bif off then
 bif data then
 bif ward then
 some true
 else
 some (eqI t0.2.2.2.2.2.2.2.2.2.2 0)
 else
 bif eqS t0.2.2.2.2.2.2.2.2.2.1 ([] : List Int) then
 bif ward then
 some true
 else
 some (eqI t0.2.2.2.2.2.2.2.2.2.2 0)
 else
 some false
 else
 bif eqI t0.2.2.2.2.2.2.2.2.1 0 then
 bif data then
 bif ward then
 some true
 else
 some (eqI t0.2.2.2.2.2.2.2.2.2.2 0)
 else
 bif eqS t0.2.2.2.2.2.2.2.2.2.1 ([] : List Int) then
 bif ward then
 some true
 else
 some (eqI t0.2.2.2.2.2.2.2.2.2.2 0)
 else
 some false
 else
 some false
 else
 some false)
 else
 z0u (List.length t0.2.2.2.2.2.2.1) (
 bif eqI (List.length t0.2.2.2.2.2.2.1 : Nat) 0 then
 bif base then
 bif off then
 bif data then
 bif ward then
 some true
 else
 some (eqI t0.2.2.2.2.2.2.2.2.2.2 0)
 else
 bif eqS t0.2.2.2.2.2.2.2.2.2.1 ([] : List Int) then
 bif ward then
 some true
 else
 some (eqI t0.2.2.2.2.2.2.2.2.2.2 0)
 else
 some false
 else
 bif eqI t0.2.2.2.2.2.2.2.2.1 0 then
 bif data then
 bif ward then
 some true
 else
 some (eqI t0.2.2.2.2.2.2.2.2.2.2 0)
 else
 bif eqS t0.2.2.2.2.2.2.2.2.2.1 ([] : List Int) then
 bif ward then
 some true
 else
 some (eqI t0.2.2.2.2.2.2.2.2.2.2 0)
 else
 some false
 else
 some false
 else
 z0u (List.length t0.2.2.2.2.2.2.2.1) (
 bif eqI (List.length t0.2.2.2.2.2.2.2.1 : Nat) 0 then
 bif off then
 bif data then
 bif ward then
 some true
 else
 some (eqI t0.2.2.2.2.2.2.2.2.2.2 0)
 else
 bif eqS t0.2.2.2.2.2.2.2.2.2.1 ([] : List Int) then
 bif ward then
 some true
 else
 some (eqI t0.2.2.2.2.2.2.2.2.2.2 0)
 else
 some false
 else
 bif eqI t0.2.2.2.2.2.2.2.2.1 0 then
 bif data then
 bif ward then
 some true
 else
 some (eqI t0.2.2.2.2.2.2.2.2.2.2 0)
 else
 bif eqS t0.2.2.2.2.2.2.2.2.2.1 ([] : List Int) then
 bif ward then
 some true
 else
 some (eqI t0.2.2.2.2.2.2.2.2.2.2 0)
 else
 some false
 else
 some false
 else
 some false)
 else
 some false)
 else
 (zjc t0.2.2.2.2.1).bind fun r =>
 bif r then
 bif eqS t0.2.2.2.2.2.1 ([] : List Int) then
 bif gone then
 bif base then
 bif off then
 bif data then
 bif ward then
 some true
 else
 some (eqI t0.2.2.2.2.2.2.2.2.2.2 0)
 else
 bif eqS t0.2.2.2.2.2.2.2.2.2.1 ([] : List Int) then
 bif ward then
 some true
 else
 some (eqI t0.2.2.2.2.2.2.2.2.2.2 0)
 else
 some false
 else
 bif eqI t0.2.2.2.2.2.2.2.2.1 0 then
 bif data then
 bif ward then
 some true
 else
 some (eqI t0.2.2.2.2.2.2.2.2.2.2 0)
 else
 bif eqS t0.2.2.2.2.2.2.2.2.2.1 ([] : List Int) then
 bif ward then
 some true
 else
 some (eqI t0.2.2.2.2.2.2.2.2.2.2 0)
 else
 some false
 else
 some false
 else
 z0u (List.length t0.2.2.2.2.2.2.2.1) (
 bif eqI (List.length t0.2.2.2.2.2.2.2.1 : Nat) 0 then
 bif off then
 bif data then
 bif ward then
 some true
 else
 some (eqI t0.2.2.2.2.2.2.2.2.2.2 0)
 else
 bif eqS t0.2.2.2.2.2.2.2.2.2.1 ([] : List Int) then
 bif ward then
 some true
 else
 some (eqI t0.2.2.2.2.2.2.2.2.2.2 0)
 else
 some false
 else
 bif eqI t0.2.2.2.2.2.2.2.2.1 0 then
 bif data then
 bif ward then
 some true
 else
 some (eqI t0.2.2.2.2.2.2.2.2.2.2 0)
 else
 bif eqS t0.2.2.2.2.2.2.2.2.2.1 ([] : List Int) then
 bif ward then
 some true
 else
 some (eqI t0.2.2.2.2.2.2.2.2.2.2 0)
 else
 some false
 else
 some false
 else
 some false)
 else
 z0u (List.length t0.2.2.2.2.2.2.1) (
 bif eqI (List.length t0.2.2.2.2.2.2.1 : Nat) 0 then
 bif base then
 bif off then
 bif data then
 bif ward then
 some true
 else
 some (eqI t0.2.2.2.2.2.2.2.2.2.2 0)
 else
 bif eqS t0.2.2.2.2.2.2.2.2.2.1 ([] : List Int) then
 bif ward then
 some true
 else
 some (eqI t0.2.2.2.2.2.2.2.2.2.2 0)
 else
 some false
 else
 bif eqI t0.2.2.2.2.2.2.2.2.1 0 then
 bif data then
 bif ward then
 some true
 else
 some (eqI t0.2.2.2.2.2.2.2.2.2.2 0)
 else
 bif eqS t0.2.2.2.2.2.2.2.2.2.1 ([] : List Int) then
 bif ward then
 some true
 else
 some (eqI t0.2.2.2.2.2.2.2.2.2.2 0)
 else
 some false
 else
 some false
 else
 z0u (List.length t0.2.2.2.2.2.2.2.1) (
 bif eqI (List.length t0.2.2.2.2.2.2.2.1 : Nat) 0 then
 bif off then
 bif data then
 bif ward then
 some true
 else
 some (eqI t0.2.2.2.2.2.2.2.2.2.2 0)
 else
 bif eqS t0.2.2.2.2.2.2.2.2.2.1 ([] : List Int) then
 bif ward then
 some true
 else
 some (eqI t0.2.2.2.2.2.2.2.2.2.2 0)
 else
 some false
 else
 bif eqI t0.2.2.2.2.2.2.2.2.1 0 then
 bif data then
 bif ward then
 some true
 else
 some (eqI t0.2.2.2.2.2.2.2.2.2.2 0)
 else
 bif eqS t0.2.2.2.2.2.2.2.2.2.1 ([] : List Int) then
 bif ward then
 some true
 else
 some (eqI t0.2.2.2.2.2.2.2.2.2.2 0)
 else
 some false
 else
 some false
 else
 some false)
 else
 some false)
 else
 some false
 else
 some false
 else
 (zjc t0.2.2.2.1).bind fun r2 =>
 bif r2 then
 bif dir then
 bif gone then
 bif base then
 bif off then
 bif data then
 bif ward then
 some true
 else
 some (eqI t0.2.2.2.2.2.2.2.2.2.2 0)
 else
 bif eqS t0.2.2.2.2.2.2.2.2.2.1 ([] : List Int) then
 bif ward then
 some true
 else
 some (eqI t0.2.2.2.2.2.2.2.2.2.2 0)
 else
 some false
 else
 bif eqI t0.2.2.2.2.2.2.2.2.1 0 then
 bif data then
 bif ward then
 some true
 else
 some (eqI t0.2.2.2.2.2.2.2.2.2.2 0)
 else
 bif eqS t0.2.2.2.2.2.2.2.2.2.1 ([] : List Int) then
 bif ward then
 some true
 else
 some (eqI t0.2.2.2.2.2.2.2.2.2.2 0)
 else
 some false
 else
 some false
 else
 z0u (List.length t0.2.2.2.2.2.2.2.1) (
 bif eqI (List.length t0.2.2.2.2.2.2.2.1 : Nat) 0 then
 bif off then
 bif data then
 bif ward then
 some true
 else
 some (eqI t0.2.2.2.2.2.2.2.2.2.2 0)
 else
 bif eqS t0.2.2.2.2.2.2.2.2.2.1 ([] : List Int) then
 bif ward then
 some true
 else
 some (eqI t0.2.2.2.2.2.2.2.2.2.2 0)
 else
 some false
 else
 bif eqI t0.2.2.2.2.2.2.2.2.1 0 then
 bif data then
 bif ward then
 some true
 else
 some (eqI t0.2.2.2.2.2.2.2.2.2.2 0)
 else
 bif eqS t0.2.2.2.2.2.2.2.2.2.1 ([] : List Int) then
 bif ward then
 some true
 else
 some (eqI t0.2.2.2.2.2.2.2.2.2.2 0)
 else
 some false
 else
 some false
 else
 some false)
 else
 z0u (List.length t0.2.2.2.2.2.2.1) (
 bif eqI (List.length t0.2.2.2.2.2.2.1 : Nat) 0 then
 bif base then
 bif off then
 bif data then
 bif ward then
 some true
 else
 some (eqI t0.2.2.2.2.2.2.2.2.2.2 0)
 else
 bif eqS t0.2.2.2.2.2.2.2.2.2.1 ([] : List Int) then
 bif ward then
 some true
 else
 some (eqI t0.2.2.2.2.2.2.2.2.2.2 0)
 else
 some false
 else
 bif eqI t0.2.2.2.2.2.2.2.2.1 0 then
 bif data then
 bif ward then
 some true
 else
 some (eqI t0.2.2.2.2.2.2.2.2.2.2 0)
 else
 bif eqS t0.2.2.2.2.2.2.2.2.2.1 ([] : List Int) then
 bif ward then
 some true
 else
 some (eqI t0.2.2.2.2.2.2.2.2.2.2 0)
 else
 some false
 else
 some false
 else
 z0u (List.length t0.2.2.2.2.2.2.2.1) (
 bif eqI (List.length t0.2.2.2.2.2.2.2.1 : Nat) 0 then
 bif off then
 bif data then
 bif ward then
 some true
 else
 some (eqI t0.2.2.2.2.2.2.2.2.2.2 0)
 else
 bif eqS t0.2.2.2.2.2.2.2.2.2.1 ([] : List Int) then
 bif ward then
 some true
 else
 some (eqI t0.2.2.2.2.2.2.2.2.2.2 0)
 else
 some false
 else
 bif eqI t0.2.2.2.2.2.2.2.2.1 0 then
 bif data then
 bif ward then
 some true
 else
 some (eqI t0.2.2.2.2.2.2.2.2.2.2 0)
 else
 bif eqS t0.2.2.2.2.2.2.2.2.2.1 ([] : List Int) then
 bif ward then
 some true
 else
 some (eqI t0.2.2.2.2.2.2.2.2.2.2 0)
 else
 some false
 else
 some false
 else
 some false)
 else
 some false)
 else
 (zjc t0.2.2.2.2.1).bind fun r3 =>
 bif r3 then
 bif eqS t0.2.2.2.2.2.1 ([] : List Int) then
 bif gone then
 bif base then
 bif off then
 bif data then
 bif ward then
 some true
 else
 some (eqI t0.2.2.2.2.2.2.2.2.2.2 0)
 else
 bif eqS t0.2.2.2.2.2.2.2.2.2.1 ([] : List Int) then
 bif ward then
 some true
 else
 some (eqI t0.2.2.2.2.2.2.2.2.2.2 0)
 else
 some false
 else
 bif eqI t0.2.2.2.2.2.2.2.2.1 0 then
 bif data then
 bif ward then
 some true
 else
 some (eqI t0.2.2.2.2.2.2.2.2.2.2 0)
 else
 bif eqS t0.2.2.2.2.2.2.2.2.2.1 ([] : List Int) then
 bif ward then
 some true
 else
 some (eqI t0.2.2.2.2.2.2.2.2.2.2 0)
 else
 some false
 else
 some false
 else
 z0u (List.length t0.2.2.2.2.2.2.2.1) (
 bif eqI (List.length t0.2.2.2.2.2.2.2.1 : Nat) 0 then
 bif off then
 bif data then
 bif ward then
 some true
 else
 some (eqI t0.2.2.2.2.2.2.2.2.2.2 0)
 else
 bif eqS t0.2.2.2.2.2.2.2.2.2.1 ([] : List Int) then
 bif ward then
 some true
 else
 some (eqI t0.2.2.2.2.2.2.2.2.2.2 0)
 else
 some false
 else
 bif eqI t0.2.2.2.2.2.2.2.2.1 0 then
 bif data then
 bif ward then
 some true
 else
 some (eqI t0.2.2.2.2.2.2.2.2.2.2 0)
 else
 bif eqS t0.2.2.2.2.2.2.2.2.2.1 ([] : List Int) then
 bif ward then
 some true
 else
 some (eqI t0.2.2.2.2.2.2.2.2.2.2 0)
 else
 some false
 else
 some false
 else
 some false)
 else
 z0u (List.length t0.2.2.2.2.2.2.1) (
 bif eqI (List.length t0.2.2.2.2.2.2.1 : Nat) 0 then
 bif base then
 bif off then
 bif data then
 bif ward then
 some true
 else
 some (eqI t0.2.2.2.2.2.2.2.2.2.2 0)
 else
 bif eqS t0.2.2.2.2.2.2.2.2.2.1 ([] : List Int) then
 bif ward then
 some true
 else
 some (eqI t0.2.2.2.2.2.2.2.2.2.2 0)
 else
 some false
 else
 bif eqI t0.2.2.2.2.2.2.2.2.1 0 then
 bif data then
 bif ward then
 some true
 else
 some (eqI t0.2.2.2.2.2.2.2.2.2.2 0)
 else
 bif eqS t0.2.2.2.2.2.2.2.2.2.1 ([] : List Int) then
 bif ward then
 some true
 else
 some (eqI t0.2.2.2.2.2.2.2.2.2.2 0)
 else
 some false
 else
 some false
 else
 z0u (List.length t0.2.2.2.2.2.2.2.1) (
 bif eqI (List.length t0.2.2.2.2.2.2.2.1 : Nat) 0 then
 bif off then
 bif data then
 bif ward then
 some true
 else
 some (eqI t0.2.2.2.2.2.2.2.2.2.2 0)
 else
 bif eqS t0.2.2.2.2.2.2.2.2.2.1 ([] : List Int) then
 bif ward then
 some true
 else
 some (eqI t0.2.2.2.2.2.2.2.2.2.2 0)
 else
 some false
 else
 bif eqI t0.2.2.2.2.2.2.2.2.1 0 then
 bif data then
 bif ward then
 some true
 else
 some (eqI t0.2.2.2.2.2.2.2.2.2.2 0)
 else
 bif eqS t0.2.2.2.2.2.2.2.2.2.1 ([] : List Int) then
 bif ward then
 some true
 else
 some (eqI t0.2.2.2.2.2.2.2.2.2.2 0)
 else
 some false
 else
 some false
 else
 some false)
 else
 some false)
 else
 some false
 else
 some false
 else
 some false
def z1ca : Sig := ⟨83, [.d c9, .d .bool, .d .bool, .d .bool, .d .bool, .d .bool, .d .bool, .d .bool], [], 0, z1cc⟩
def z18r (x : T1 × Bool × Bool × Bool × Bool × Bool × Bool × Bool) : Option ((Bool)) := zb1 x.1 x.2.1 x.2.2.1 x.2.2.2.1 x.2.2.2.2.1 x.2.2.2.2.2.1 x.2.2.2.2.2.2.1 x.2.2.2.2.2.2.2
theorem z1lg : FnOK Try.prog z1ca z18r :=
 fn_ok z1ig (h := .no) Try.func83 (z0p [] (by kernel_rfl) trivial) (by kernel_rfl) z1g6 (fun x => by kernel_rfl)
def z1l1 : Env := ⟨[(entQ zoi zkw), (entQ zte zr7), (entQ zz3 zv3), (entQ z1b8 z18t), (entQ z1ah z17f), (entQ z1ca z18r)], [], []⟩
theorem z10r : EnvsOK Try.prog z1l1 := ⟨z0o (z0q zr9) (z0o (z0q zyk) (z0o (z0q z18a) (z0o (z0q z1ld) (z0o (z0q z1kz) (z0o (z0q z1lg) (z0x _)))))), z0s _, z0t _⟩
def zkp : Shp := ⟨233, 0, [(1, .pt 0 r8 [])], [.var 67 (.d c9)]⟩
def zkg : Shp := ⟨233, 0, [(2, .d .bool)], []⟩
def z9l : XS := .or (.exit 0) zkp.xe (.one .ret zkg.xe)
theorem zus : z9l.OK := XS.or_ok (z0c zkp) (XS.one_ok (z0c zkg))
def z9s : Shp := ⟨233, 0, [(1, .pt 0 r8 []), (3, .d (.int .i64))], [.var 67 (.d c9)]⟩
abbrev zfp := Int × T1
abbrev zmt := (T1) ⊕ (Bool)
def zfr (i : Int) (t1 : T1) : Option (zfp ⊕ zmt) :=
 bif ltI i 8 then
 bif inI i 8 then
 (t1.2.1[i.toNat]?).bind fun x =>
 bif ltI 1048576 x then
 some (.inr (.inr false))
 else
 some (.inl (W64 (i + 1), t1))
 else none
 else
 some (.inr (.inl t1))
def z3l (s : zfp) : Option (zfp ⊕ zmt) := zfr s.1 s.2
theorem zvz : SoundD Try.prog (.loop (subC (bodyC Try.f57) [1, 1, 0, 1, 0, 0])) (loopD z9s.xe z9l (loopC z3l)) :=
 z0w (S := z9s.xe) (X := z9l) z10r (h := .no) (z0p [] (by kernel_rfl) trivial) (z0c z9s) zus z3l (fun s => by kernel_rfl)
def zqq : Shp := ⟨233, 0, [(1, .pt 0 r8 []), (4, .d .bool), (5, .d .bool)], [.var 67 (.d c9)]⟩
def zlm : XS := .one .normal zqq.xe
theorem z13f : zlm.OK := XS.one_ok (z0c zqq)
def zo1 : Shp := ⟨233, 0, [(1, .pt 0 r8 []), (4, .d .bool), (5, .d .bool), (6, .d .bool), (7, .d .bool)], [.var 67 (.d c9)]⟩
def zix : XS := .one .normal zo1.xe
theorem zza : zix.OK := XS.one_ok (z0c zo1)
def zlr : Shp := ⟨233, 0, [(1, .pt 0 r8 []), (4, .d .bool), (5, .d .bool), (6, .d .bool), (7, .d .bool), (8, .d .bool)], [.var 67 (.d c9)]⟩
def zgt : XS := .one .normal zlr.xe
theorem zvy : zgt.OK := XS.one_ok (z0c zlr)
def zfa : Shp := ⟨233, 0, [(1, .pt 0 r8 []), (4, .d .bool), (5, .d .bool), (6, .d .bool), (7, .d .bool), (8, .d .bool), (93, .d (.int .i64)), (94, .d .bool)], [.var 67 (.d c9)]⟩
def zc3 : XS := .one .normal zfa.xe
theorem znm : zc3.OK := XS.one_ok (z0c zfa)
def zzv : Shp := ⟨1, 0, [(0, .d .bool)], []⟩
def z17i : XS := .one .ret zzv.xe
theorem z1eo : z17i.OK := XS.one_ok (z0c zzv)
def ztf (t0 : T1) : Option ((Bool)) :=
 bif ltI t0.1.1 1 then
 some false
 else
 bif ltI 8 t0.1.1 then
 some false
 else
 bif ltI t0.1.2 1 then
 some false
 else
 bif ltI 1048576 t0.1.2 then
 some false
 else
 (zll t0.2.1 t0.1.1).bind fun r =>
 bif neI (WU32 (r + 1)) t0.1.2 then
 some false
 else
 (loopC z3l (0, t0)).bind fun o =>
 Sum.elim (fun y =>
 (show Option ((Bool × Bool × T1)) from
 (zl6 y.2.1 y.2.2.2.1).bind fun r2 =>
 (zjc y.2.2.2.2.1).bind fun r3 =>
 bif r3 then
 some (r2, true, y)
 else
 (zl6 y.2.1 y.2.2.2.2.1).bind fun r4 =>
 some (r2, r4, y)).bind fun j =>
 (show Option ((Bool × Bool × Bool × Bool × T1)) from
 z0u (List.length j.2.2.2.2.2.2.2.2.1) (
 bif leI (List.length j.2.2.2.2.2.2.2.2.1 : Nat) 8 then
 (zmp j.2.2.2.2.2.2.2.2.1 j.2.2.2.1).bind fun r5 =>
 (zmp j.2.2.2.2.2.2.2.2.2.1 j.2.2.2.1).bind fun r6 =>
 some (j.1, j.2.1, r5, r6, j.2.2)
 else
 (zmp j.2.2.2.2.2.2.2.2.2.1 j.2.2.2.1).bind fun r7 =>
 some (j.1, j.2.1, false, r7, j.2.2))).bind fun j2 =>
 (show Option ((Bool × Bool × Bool × Bool × Bool × T1)) from
 bif leI 0 j2.2.2.2.2.2.2.2.2.2.2.2.2.1 then
 some (j2.1, j2.2.1, j2.2.2.1, j2.2.2.2.1, leI j2.2.2.2.2.2.2.2.2.2.2.2.2.1 200, j2.2.2.2.2)
 else
 some (j2.1, j2.2.1, j2.2.2.1, j2.2.2.2.1, false, j2.2.2.2.2)).bind fun j3 =>
 (show Option ((Bool × Bool × Bool × Bool × Bool × Int × Bool × T1)) from
 bif eqI j3.2.2.2.2.2.2.2.1 1 then
 some (j3.1, j3.2.1, j3.2.2.1, j3.2.2.2.1, j3.2.2.2.2.1, j3.2.2.2.2.2.2.2.1, eqI j3.2.2.2.2.2.2.2.1 1, j3.2.2.2.2.2)
 else
 some (j3.1, j3.2.1, j3.2.2.1, j3.2.2.2.1, j3.2.2.2.2.1, j3.2.2.2.2.2.2.2.1, eqI j3.2.2.2.2.2.2.2.1 2, j3.2.2.2.2.2)).bind fun j4 =>
 bif j4.2.2.2.2.2.2.1 then
 bif j4.2.1 then
 (zr5 j4.2.2.2.2.2.2.2.2.2.2.2.2.1).bind fun r8 =>
 bif r8 then
 (zb1 j4.2.2.2.2.2.2.2 false true false false false false false).bind fun r9 =>
 some r9
 else
 some false
 else
 some false
 else
 bif eqI j4.2.2.2.2.2.1 3 then
 bif j4.1 then
 bif j4.2.2.2.1 then
 z0u (List.length j4.2.2.2.2.2.2.2.2.2.2.2.2.2.2.1) (
 bif leI (List.length j4.2.2.2.2.2.2.2.2.2.2.2.2.2.2.1 : Nat) 1 then
 bif j4.2.2.2.2.1 then
 bif !(eqS j4.2.2.2.2.2.2.2.2.2.2.2.2.2.2.2.2.1 ([] : List Int)) then
 z0u (List.length j4.2.2.2.2.2.2.2.2.2.2.2.2.2.2.2.2.1) (
 bif leI (List.length j4.2.2.2.2.2.2.2.2.2.2.2.2.2.2.2.2.1 : Nat) (W64 (200 - j4.2.2.2.2.2.2.2.2.2.2.2.2.2.2.2.1)) then
 (zb1 j4.2.2.2.2.2.2.2 true false false true true true false).bind fun r10 =>
 some r10
 else
 some false)
 else
 some false
 else
 some false
 else
 some false)
 else
 some false
 else
 some false
 else
 bif eqI j4.2.2.2.2.2.1 4 then
 bif j4.1 then
 bif j4.2.2.2.1 then
 z0u (List.length j4.2.2.2.2.2.2.2.2.2.2.2.2.2.2.1) (
 bif leI (List.length j4.2.2.2.2.2.2.2.2.2.2.2.2.2.2.1 : Nat) 1 then
 bif j4.2.2.2.2.1 then
 (zb1 j4.2.2.2.2.2.2.2 true false false true true false false).bind fun r11 =>
 some r11
 else
 some false
 else
 some false)
 else
 some false
 else
 some false
 else
 bif eqI j4.2.2.2.2.2.1 5 then
 bif j4.1 then
 bif j4.2.2.2.1 then
 z0u (List.length j4.2.2.2.2.2.2.2.2.2.2.2.2.2.2.1) (
 bif leI 2 (List.length j4.2.2.2.2.2.2.2.2.2.2.2.2.2.2.1 : Nat) then
 z0u (List.length j4.2.2.2.2.2.2.2.2.2.2.2.2.2.2.1) (
 bif leI (List.length j4.2.2.2.2.2.2.2.2.2.2.2.2.2.2.1 : Nat) 8 then
 z0u (List.length j4.2.2.2.2.2.2.2.2.2.2.2.2.2.2.2.2.1) (
 bif leI (List.length j4.2.2.2.2.2.2.2.2.2.2.2.2.2.2.2.2.1 : Nat) 200 then
 (zb1 j4.2.2.2.2.2.2.2 true false false true false true false).bind fun r12 =>
 some r12
 else
 some false)
 else
 some false)
 else
 some false)
 else
 some false
 else
 some false
 else
 bif eqI j4.2.2.2.2.2.1 6 then
 bif j4.1 then
 bif j4.2.2.1 then
 (zb1 j4.2.2.2.2.2.2.2 true false true false false false false).bind fun r13 =>
 some r13
 else
 some false
 else
 some false
 else
 bif eqI j4.2.2.2.2.2.1 7 then
 bif j4.1 then
 bif j4.2.2.1 then
 bif j4.2.1 then
 (zr5 j4.2.2.2.2.2.2.2.2.2.2.2.2.1).bind fun r14 =>
 bif r14 then
 (zb1 j4.2.2.2.2.2.2.2 true true true false false false false).bind fun r15 =>
 some r15
 else
 some false
 else
 some false
 else
 some false
 else
 some false
 else
 bif eqI j4.2.2.2.2.2.1 8 then
 bif leI 1 j4.2.2.2.2.2.2.2.2.2.2.2.2.2.2.2.2.2 then
 bif leI j4.2.2.2.2.2.2.2.2.2.2.2.2.2.2.2.2.2 4 then
 (zb1 j4.2.2.2.2.2.2.2 false false false false false false true).bind fun r16 =>
 some r16
 else
 some false
 else
 some false
 else
 bif eqI j4.2.2.2.2.2.1 9 then
 (zb1 j4.2.2.2.2.2.2.2 false false false false false false false).bind fun r17 =>
 some r17
 else
 some false) (fun y2 =>
 some y2) o
def z18i : Sig := ⟨57, [.d c9], [], 0, z17i⟩
def z13j (x : T1) : Option ((Bool)) := ztf x
theorem z1ja : FnOK Try.prog z18i z13j :=
 fn_ok z10r (h := (.two .no (.two .no (.two (.two .no (.over (loopD z9s.xe z9l (loopC z3l)))) (.join (fun _ => zlm) .no (.join (fun _ => zix) .no (.join (fun _ => zgt) .no (.two (.two .no (.join (fun _ => zc3) .no .no)) .no)))))))) Try.func57 (z0p [.den (.loop (subC (bodyC Try.f57) [1, 1, 0, 1, 0, 0])) (loopD z9s.xe z9l (loopC z3l)), .xs (fun _ => zlm), .xs (fun _ => zix), .xs (fun _ => zgt), .xs (fun _ => zc3)] (by kernel_rfl) ⟨zvz, (z2j z13f), (z2j zza), (z2j zvy), (z2j znm), trivial⟩) (by kernel_rfl) z1eo (fun x => by kernel_rfl)
def z1o4 : Env := ⟨[], [], []⟩
theorem z1j4 : EnvsOK Try.prog z1o4 := ⟨z0x _, z0s _, z0t _⟩
def z14z : Shp := ⟨1, 0, [(0, .d .bool)], []⟩
def z1c9 : XS := .one .ret z14z.xe
theorem z1hg : z1c9.OK := XS.one_ok (z0c z14z)
def zwf (x : T0) : Option ((Bool)) :=
 bif eqI x.1 0 then
 some (eqI x.2 0)
 else
 some false
def z1bm : Sig := ⟨84, [.d c0], [], 0, z1c9⟩
def z17y (x : T0) : Option ((Bool)) := zwf x
theorem z1l8 : FnOK Try.prog z1bm z17y :=
 fn_ok z1j4 (h := .no) Try.func84 (z0p [] (by kernel_rfl) trivial) (by kernel_rfl) z1hg (fun x => by kernel_rfl)
def z1iq : Env := ⟨[], [], []⟩
theorem zy8 : EnvsOK Try.prog z1iq := ⟨z0x _, z0s _, z0t _⟩
def zl0 : Shp := ⟨28, 0, [(4, .pt 0 r13 [])], [.var 49 (.d c14)]⟩
def zm6 : Shp := ⟨28, 0, [(4, .pt 0 r13 []), (5, .d .bool)], [.var 49 (.d c14)]⟩
def zav : XS := .or (.exit 0) zl0.xe (.one .ret zm6.xe)
theorem zvv : zav.OK := XS.or_ok (z0c zl0) (XS.one_ok (z0c zm6))
def zak : Shp := ⟨28, 0, [(2, .pt 0 r15 []), (3, .pt 1 r2 []), (4, .pt 2 r13 []), (6, .d (.int .i64))], [.var 33 (.d c17), .var 43 (.d c0), .var 49 (.d c14)]⟩
abbrev zgr := Int × T5 × T0 × T4
abbrev zob := (T4) ⊕ (Bool × T4)
def zh2 (i : Int) (t2 : T5) (id : T0) (t4 : T4) : Option (zgr ⊕ zob) :=
 z0u (List.length t2.2.1) (
 bif ltI i (List.length t2.2.1 : Nat) then
 (idxI t2.2.1 i).bind fun x =>
 bif eqU c0 x.1 id then
 (idxI t2.2.1 i).bind fun x2 =>
 some (.inr (.inr (true, x2)))
 else
 some (.inl (W64 (i + 1), t2, id, t4))
 else
 some (.inr (.inl t4)))
def z5g (s : zgr) : Option (zgr ⊕ zob) := zh2 s.1 s.2.1 s.2.2.1 s.2.2.2
theorem zys : SoundD Try.prog (.loop (subC (bodyC Try.f19) [1, 0, 1, 0, 0])) (loopD zak.xe zav (loopC z5g)) :=
 z0w (S := zak.xe) (X := zav) zy8 (h := .no) (z0p [] (by kernel_rfl) trivial) (z0c zak) zvv z5g (fun s => by kernel_rfl)
def zye : Shp := ⟨1, 0, [(0, .tu [.d c14, .d .bool])], []⟩
def z14e : XS := .one .ret zye.xe
theorem z1d4 : z14e.OK := XS.one_ok (z0c zye)
def zl5 (t0 : T5) (id : T0) : Option ((T4 × Bool)) :=
 (loopC z5g (0, t0, id, ((0, 0), false, (0, 0), [], List.replicate 8 (0 : Int), []))).bind fun o =>
 Sum.elim (fun y =>
 some (((0, 0), false, (0, 0), [], List.replicate 8 (0 : Int), []), false)) (fun y2 =>
 some (y2.2, y2.1)) o
def zt9 : Sig := ⟨19, [.d c17, .d c0], [], 0, z14e⟩
def zr4 (x : T5 × T0) : Option ((T4 × Bool)) := zl5 x.1 x.2
theorem z10u : FnOK Try.prog zt9 zr4 :=
 fn_ok zy8 (h := (.two .no (.two (.two .no (.over (loopD zak.xe zav (loopC z5g)))) .no))) Try.func19 (z0p [.den (.loop (subC (bodyC Try.f19) [1, 0, 1, 0, 0])) (loopD zak.xe zav (loopC z5g))] (by kernel_rfl) ⟨zys, trivial⟩) (by kernel_rfl) z1d4 (fun x => by kernel_rfl)
def z1p1 : Env := ⟨[(entQ z1bm z17y), (entQ zt9 zr4)], [], []⟩
theorem z1lu : EnvsOK Try.prog z1p1 := ⟨z0o (z0q z1l8) (z0o (z0q z10u) (z0x _)), z0s _, z0t _⟩
def z18n : Shp := ⟨1, 0, [(0, .d (.int .i64))], []⟩
def z1ea : XS := .one .ret z18n.xe
theorem z1jm : z1ea.OK := XS.one_ok (z0c z18n)
def ztq (t0 : T5) (id : T0) : Option ((Int)) :=
 (zwf id).bind fun r =>
 bif r then
 some 0
 else
 (zl5 t0 id).bind fun r2 =>
 bif !r2.2 then
 some 2
 else
 bif !r2.1.2.1 then
 some 22
 else
 some 0
def z1eh : Sig := ⟨59, [.d c17, .d c0], [], 0, z1ea⟩
def z19t (x : T5 × T0) : Option ((Int)) := ztq x.1 x.2
theorem z1o1 : FnOK Try.prog z1eh z19t :=
 fn_ok z1lu (h := .no) Try.func59 (z0p [] (by kernel_rfl) trivial) (by kernel_rfl) z1jm (fun x => by kernel_rfl)
end Go.Proofs.Ytfbdjicfkcklfaa