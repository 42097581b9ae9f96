import Derived.Test.YtfbdjicfkcklfaaSwA
import Derived.Test.YtfbdjicfkcklfaaTm26
set_option maxRecDepth 100000
set_option linter.unusedVariables false
noncomputable section
namespace Go.Proofs.Ytfbdjicfkcklfaa
open Go.Tm Go.Ab
def z1uw : Env := ⟨[(entQ z1dk z1av), (entQ zly zjm), (entQ z17r z14e), (entQ z1jg z1go), (entQ zvo zt3), (entQ z12l zyb)], [], []⟩
theorem z1cn : EnvsOK Try.prog z1uw := ⟨z0o (z0q z1oo) (z0o (z0q znx) (z0o (z0q z1ew) (z0o (z0q z1rs) (z0o (z0q z16j) (z0o (z0q z1cw) (z0w _)))))), z0s _, z0t _⟩
def zlh : Shp := ⟨92, 0, [(2, .pt 0 r15 []), (3, .pt 1 r8 []), (46, .d .bool)], [.var 33 (.d c17), .var 67 (.d c9)]⟩
def zg4 : XS := .one .normal zlh.xe
theorem zxn : zg4.OK := XS.one_ok (z0c zlh)
def zbz : Shp := ⟨92, 0, [], []⟩
def zby : Shp := ⟨92, 0, [(4, .d (.int .i64))], []⟩
def z2t : XS := .or (.exit 0) zbz.xe (.one .ret zby.xe)
theorem zik : z2t.OK := XS.or_ok (z0c zbz) (XS.one_ok (z0c zby))
def z2u : Shp := ⟨92, 0, [(3, .pt 0 r8 []), (5, .pt 1 r13 []), (7, .d (.int .i64))], [.var 67 (.d c9), .var 49 (.d c14)]⟩
abbrev z6v := Int × T1 × T4
abbrev zcf := (Unit) ⊕ (Int)
def z6u (i : Int) (t3 : T1) (o : T4) : Option (z6v ⊕ zcf) :=
 z0u (List.length t3.2.2.2.2.2.2.2.1) (
 bif ltI i (List.length t3.2.2.2.2.2.2.2.1 : Nat) then
 (idxI t3.2.2.2.2.2.2.2.1 i).bind fun x =>
 (ztb o.2.2.2.2.2 x).bind fun r =>
 bif neI r.2 0 then
 some (.inr (.inr 2))
 else
 some (.inl (W64 (i + 1), t3, o))
 else
 some (.inr (.inl ())))
def z1l (s : z6v) : Option (z6v ⊕ zcf) := z6u s.1 s.2.1 s.2.2
theorem zj6 : SoundD Try.prog (.loop (subC (bodyC Try.f34) [1, 1, 1, 1, 1, 1, 1, 1, 1, 1, 1, 1, 0, 1, 0, 0])) (loopD z2u.xe z2t (loopC z1l)) :=
 z0v (S := z2u.xe) (X := z2t) z1cn (h := .no) (z0p [] (by kernel_rfl) trivial) (z0c z2u) zik z1l (fun s => by kernel_rfl)
def z1dx : Shp := ⟨1, 0, [(0, .d (.int .i64))], []⟩
def z1ig : XS := .one .ret z1dx.xe
theorem z1ou : z1ig.OK := XS.one_ok (z0c z1dx)
def z16t (t0 : T5) (t1 : T1) : Option ((Int)) :=
 (zwb t1).bind fun r =>
 bif !r then
 some 7
 else
 (zft t0.1 t1.1).bind fun r2 =>
 bif r2 then
 some 11
 else
 (zxf t1.2.1 t0.1).bind fun r3 =>
 bif !r3 then
 some 10
 else
 bif inI (W64 (t1.1.1 - 1)) 8 then
 (t0.2.2.2.2[(W64 (t1.1.1 - 1)).toNat]?).bind fun x =>
 bif x then
 some 28
 else
 bif eqI t1.2.2.1 8 then
 some 0
 else
 bif eqI t1.2.2.1 9 then
 some 0
 else
 (show Option ((Bool × T5 × T1)) from
 bif eqI t1.2.2.1 1 then
 some (true, t0, t1)
 else
 some (eqI t1.2.2.1 2, t0, t1)).bind fun j =>
 bif j.1 then
 (zwh j.2.1 j.2.2.2.2.2.2.1).bind fun r4 =>
 some r4
 else
 (zo5 j.2.1 j.2.2.2.2.2.1).bind fun r5 =>
 bif !r5.2 then
 some 2
 else
 bif eqI j.2.2.2.2.1 7 then
 (zwh j.2.1 j.2.2.2.2.2.2.1).bind fun r6 =>
 some r6
 else
 bif eqI j.2.2.2.2.1 6 then
 some 0
 else
 bif r5.1.2.1 then
 some 23
 else
 (loopC z1l (0, j.2.2, r5.1)).bind fun o =>
 Sum.elim (fun y =>
 some 0) (fun y2 =>
 some y2) o
 else none
def z1iq : Sig := ⟨34, [.d c17, .d c9], [], 0, z1ig⟩
def z1gl (x : T5 × T1) : Option ((Int)) := z16t x.1 x.2
theorem z1t0 : FnOK Try.prog z1iq z1gl :=
 fn_ok z1cn (h := (.two .no (.two .no (.two .no (.two .no (.two .no (.two .no (.two (.join (fun _ => zg4) .no .no) (.two .no (.two .no (.two .no (.two .no (.two .no (.two (.two .no (.over (loopD z2u.xe z2t (loopC z1l)))) .no)))))))))))))) Try.func34 (z0p [.xs (fun _ => zg4), .den (.loop (subC (bodyC Try.f34) [1, 1, 1, 1, 1, 1, 1, 1, 1, 1, 1, 1, 0, 1, 0, 0])) (loopD z2u.xe z2t (loopC z1l))] (by kernel_rfl) ⟨(z2k zxn), zj6, trivial⟩) (by kernel_rfl) z1ou (fun x => by kernel_rfl)
def z1hx : Env := ⟨[(entQ zuj zpu), (entQ z9m z7t), (entQ z17g z13h)], [], []⟩
theorem zm3 : EnvsOK Try.prog z1hx := ⟨z0o (z0q zwa) (z0o (z0q z9y) (z0o (z0q z1h7) (z0w _))), z0s _, z0t _⟩
def zdb : Shp := ⟨101, 1, [(0, .wn 0 c9), (3, .d c5), (4, .d (.int .i64)), (5, .pt 1 r8 [])], [.row 67 c9, .var 67 (.d c9)]⟩
def zdi : Shp := ⟨101, 1, [(0, .wn 0 c9), (3, .d c5), (4, .d (.int .i64)), (23, .pt 1 r8 [.fld 2]), (24, .d (.int .i64)), (25, .d .bool), (28, .pt 1 r8 [.fld 2]), (29, .d (.int .i64)), (30, .d .bool)], [.row 67 c9, .var 67 (.d c9)]⟩
def z9f : XS := .or .normal zdb.xe (.one (.exit 1) zdi.xe)
theorem zlb : z9f.OK := XS.or_ok (z0c zdb) (XS.one_ok (z0c zdi))
def zc7 : Shp := ⟨101, 1, [(0, .wn 0 c9), (3, .d c5), (4, .d (.int .i64)), (6, .pt 1 r7 [])], [.row 67 c9, .var 45 (.d c6)]⟩
def z7h : XS := .one .normal zc7.xe
theorem zj7 : z7h.OK := XS.one_ok (z0c zc7)
def z5x : Shp := ⟨101, 1, [(0, .wn 0 c9), (3, .d c5), (4, .d (.int .i64)), (6, .pt 1 r7 []), (7, .d (.int .i64)), (8, .d .bool)], [.row 67 c9, .var 45 (.d c6)]⟩
def z2z : XS := .one .normal z5x.xe
theorem zd4 : z2z.OK := XS.one_ok (z0c z5x)
def z5h : Shp := ⟨101, 1, [(0, .wn 0 c9), (3, .d c5), (4, .d (.int .i64)), (6, .pt 1 r7 []), (7, .d (.int .i64)), (87, .d .bool)], [.row 67 c9, .var 45 (.d c6)]⟩
def z2x : XS := .one .normal z5h.xe
theorem zcg : z2x.OK := XS.one_ok (z0c z5h)
def z7y : Shp := ⟨101, 1, [(0, .wn 0 c9), (3, .d c5), (4, .d (.int .i64)), (6, .pt 1 r7 [])], [.row 67 c9, .var 45 (.d c6)]⟩
def z1t : XS := .one (.exit 2) z7y.xe
theorem zez : z1t.OK := XS.one_ok (z0c z7y)
def z1w : Shp := ⟨101, 1, [(0, .wn 0 c9), (3, .d c5), (4, .d (.int .i64)), (6, .pt 1 r7 []), (7, .d (.int .i64))], [.row 67 c9, .var 45 (.d c6)]⟩
abbrev z4o := (List T2) × Int × Int × (List T1) × T2
abbrev z9a := ((List T2) × Int × (List T1) × T2)
def z4p (out : List T2) (i : Int) (k : Int) (l : List T1) (x : T2) : Option (z4o ⊕ z9a) :=
 z0u (List.length l) (
 bif ltI k (List.length l : Nat) then
 (show Option (((List T2) × Int × Int × Bool × (List T1) × T2)) from
 bif inI k (List.length l) then
 (l[k.toNat]?).bind fun x2 =>
 bif eqI x2.2.2.1 6 then
 bif Nat.beq (List.length l) (List.length l) then
 some (out, i, k, true, l, x)
 else none
 else
 bif inI k (List.length l) then
 (l[k.toNat]?).bind fun x3 =>
 bif Nat.beq (List.length l) (List.length l) then
 some (out, i, k, eqI x3.2.2.1 7, l, x)
 else none
 else none
 else none).bind fun j =>
 (show Option (((List T2) × Int × Int × Bool × (List T1) × T2)) from
 bif j.2.2.2.1 then
 bif inI j.2.2.1 (List.length j.2.2.2.2.1) then
 (j.2.2.2.2.1[j.2.2.1.toNat]?).bind fun x4 =>
 bif eqU c0 x4.2.2.2.1 j.2.2.2.2.2.2.2.2.1 then
 bif inI j.2.2.1 (List.length j.2.2.2.2.1) then
 (j.2.2.2.2.1[j.2.2.1.toNat]?).bind fun x5 =>
 (ziz x5.2.2.2.2.2.2.1 j.2.2.2.2.2.1).bind fun r =>
 bif Nat.beq (List.length j.2.2.2.2.1) (List.length j.2.2.2.2.1) then
 some (j.1, j.2.1, j.2.2.1, r, j.2.2.2.2.1, j.2.2.2.2.2)
 else none
 else none
 else
 bif Nat.beq (List.length j.2.2.2.2.1) (List.length j.2.2.2.2.1) then
 some (j.1, j.2.1, j.2.2.1, false, j.2.2.2.2.1, j.2.2.2.2.2)
 else none
 else none
 else
 bif Nat.beq (List.length j.2.2.2.2.1) (List.length j.2.2.2.2.1) then
 some (j.1, j.2.1, j.2.2.1, false, j.2.2.2.2.1, j.2.2.2.2.2)
 else none).bind fun j2 =>
 bif j2.2.2.2.1 then
 bif inI j2.2.2.1 (List.length j2.2.2.2.2.1) then
 (j2.2.2.2.2.1[j2.2.2.1.toNat]?).bind fun x6 =>
 (za3 j2.2.2.2.2.2.2.2.2.2 x6.1).bind fun r2 =>
 bif Nat.beq (List.length j2.2.2.2.2.1) (List.length j2.2.2.2.2.1) then
 some (.inl (j2.1, j2.2.1, W64 (j2.2.2.1 + 1), j2.2.2.2.2.1, (j2.2.2.2.2.2.1, j2.2.2.2.2.2.2.1, j2.2.2.2.2.2.2.2.1, j2.2.2.2.2.2.2.2.2.1, r2)))
 else none
 else none
 else
 bif Nat.beq (List.length j2.2.2.2.2.1) (List.length j2.2.2.2.2.1) then
 some (.inl (j2.1, j2.2.1, W64 (j2.2.2.1 + 1), j2.2.2.2.2.1, j2.2.2.2.2.2))
 else none
 else
 bif Nat.beq (List.length l) (List.length l) then
 some (.inr (out, i, l, x))
 else none)
def z1b (s : z4o) : Option (z4o ⊕ z9a) := z4p s.1 s.2.1 s.2.2.1 s.2.2.2.1 s.2.2.2.2
theorem zfb : SoundD Try.prog (.loop (subC (bodyC Try.f29) [1, 1, 0, 1, 0, 0, 1, 0, 0, 1, 1, 1, 1, 0, 1, 0, 0])) (loopD z1w.xe z1t (loopC z1b)) :=
 z0v (S := z1w.xe) (X := z1t) zm3 (h := (.two .no (.two (.join (fun _ => z2z) .no (.join (fun _ => z2x) .no .no)) .no))) (z0p [.xs (fun _ => z2z), .xs (fun _ => z2x)] (by kernel_rfl) ⟨(z2k zd4), (z2k zcg), trivial⟩) (z0c z1w) zez z1b (fun s => by kernel_rfl)
def zj4 : Shp := ⟨101, 1, [(3, .d c5)], [.row 67 c9]⟩
def z7f : XS := .one (.exit 0) zj4.xe
theorem ztr : z7f.OK := XS.one_ok (z0c zj4)
def z7g : Shp := ⟨101, 1, [(0, .wn 0 c9), (3, .d c5), (4, .d (.int .i64))], [.row 67 c9]⟩
abbrev zeg := (List T2) × Int × (List T1)
abbrev zkc := ((List T2) × (List T1))
def zee (out : List T2) (i : Int) (l : List T1) : Option (zeg ⊕ zkc) :=
 z0u (List.length l) (
 bif ltI i (List.length l : Nat) then
 bif inI i (List.length l) then
 (l[i.toNat]?).bind fun x =>
 (show Option (((List T2) × Int × (List T1) × T1) ⊕ ((List T2) × Int × Int × Bool × Int × Bool × (List T1) × T1)) from
 bif neI x.2.2.1 1 then
 bif neI x.2.2.1 2 then
 bif neI x.2.2.1 7 then
 bif Nat.beq (List.length l) (List.length l) then
 some (.inr (out, i, x.2.2.1, neI x.2.2.1 2, x.2.2.1, neI x.2.2.1 7, l, x))
 else none
 else
 bif Nat.beq (List.length l) (List.length l) then
 some (.inl (out, i, l, x))
 else none
 else
 bif Nat.beq (List.length l) (List.length l) then
 some (.inl (out, i, l, x))
 else none
 else
 bif Nat.beq (List.length l) (List.length l) then
 some (.inl (out, i, l, x))
 else none).bind fun j =>
 Sum.elim (fun y =>
 (show Option (((List T2) × Int × (List T1) × T2)) from
 bif eqI y.2.2.2.2.2.1 7 then
 bif Nat.beq (List.length y.2.2.1) (List.length y.2.2.1) then
 some (y.1, y.2.1, y.2.2.1, (y.2.2.2.1, y.2.2.2.2.2.2.2.1, y.2.2.2.2.2.2.2.2.1, y.2.2.2.2.2.2.1, List.replicate 8 (0 : Int)))
 else none
 else
 bif Nat.beq (List.length y.2.2.1) (List.length y.2.2.1) then
 some (y.1, y.2.1, y.2.2.1, (y.2.2.2.1, y.2.2.2.2.2.2.2.1, y.2.2.2.2.2.2.2.2.1, y.2.2.2.1, List.replicate 8 (0 : Int)))
 else none).bind fun j2 =>
 bif Nat.beq (List.length j2.2.2.1) (List.length j2.2.2.1) then
 (loopC z1b (j2.1, j2.2.1, 0, j2.2.2.1, j2.2.2.2)).bind fun o =>
 (zhy o.1 o.2.2.2).bind fun r =>
 bif Nat.beq (List.length o.2.2.1) (List.length o.2.2.1) then
 some (.inl (r, W64 (o.2.1 + 1), o.2.2.1))
 else none
 else none) (fun y2 =>
 bif Nat.beq (List.length y2.2.2.2.2.2.2.1) (List.length y2.2.2.2.2.2.2.1) then
 some (.inl (y2.1, W64 (y2.2.1 + 1), y2.2.2.2.2.2.2.1))
 else none) j
 else none
 else
 some (.inr (out, l)))
def z3g (s : zeg) : Option (zeg ⊕ zkc) := zee s.1 s.2.1 s.2.2
theorem zus : SoundD Try.prog (.loop (subC (bodyC Try.f29) [1, 1, 0, 1, 0, 0])) (loopD z7g.xe z7f (loopC z3g)) :=
 z0v (S := z7g.xe) (X := z7f) zm3 (h := (.two .no (.two (.two .no (.join (fun _ => z9f) .no (.two .no (.join (fun _ => z7h) .no (.two (.two .no (.over (loopD z1w.xe z1t (loopC z1b)))) .no))))) .no))) (z0p [.xs (fun _ => z9f), .xs (fun _ => z7h), .den (.loop (subC (bodyC Try.f29) [1, 1, 0, 1, 0, 0, 1, 0, 0, 1, 1, 1, 1, 0, 1, 0, 0])) (loopD z1w.xe z1t (loopC z1b))] (by kernel_rfl) ⟨(z2k zlb), (z2k zj7), zfb, trivial⟩) (z0c z7g) ztr z3g (fun s => by kernel_rfl)
def zv0 : Shp := ⟨1, 1, [(0, .d c5)], [.row 67 c9]⟩
def zyj : XS := .one .ret zv0.xe
theorem z1bd : zyj.OK := XS.one_ok (z0c zv0)
def zmk (l : List T1) : Option (((List T2) × (List T1))) :=
 bif Nat.beq (List.length l) (List.length l) then
 (loopC z3g ([], 0, l)).bind fun o =>
 some (o.1, o.2)
 else none
def zyk : Sig := ⟨29, [.wn 0 c9], [.row 67 c9], 1, zyj⟩
def zwo (x : (List T1)) : Option (((List T2) × (List T1))) := zmk x
theorem z1fx : FnOK Try.prog zyk zwo :=
 fn_ok zm3 (h := (.two .no (.two .no (.two (.two .no (.over (loopD z7g.xe z7f (loopC z3g)))) .no)))) Try.func29 (z0p [.den (.loop (subC (bodyC Try.f29) [1, 1, 0, 1, 0, 0])) (loopD z7g.xe z7f (loopC z3g))] (by kernel_rfl) ⟨zus, trivial⟩) (by kernel_rfl) z1bd (fun x => by kernel_rfl)
def z1gz : Env := ⟨[(entQ zvc zuf), (entQ zlt zok), (entQ zuj zpu), (entQ z9m z7t), (entQ z17w z11q)], [], []⟩
theorem zl3 : EnvsOK Try.prog z1gz := ⟨z0o (z0q z14y) (z0o (z0q z19a) (z0o (z0q zwa) (z0o (z0q z9y) (z0o (z0q z1gg) (z0w _))))), z0s _, z0t _⟩
def z6t : Shp := ⟨89, 1, [(0, .wn 0 c9), (3, .pt 1 r2 []), (5, .d c10), (6, .d (.int .i64)), (7, .pt 2 r12 []), (8, .d (.int .i64)), (22, .wn 0 c9), (23, .d (.int .i64)), (26, .d c0), (27, .d c0), (28, .d .bool), (72, .d .bool)], [.row 67 c9, .var 43 (.d c0), .var 85 (.d c11)]⟩
def z3l : XS := .one .normal z6t.xe
theorem zdw : z3l.OK := XS.one_ok (z0c z6t)
def z9u : Shp := ⟨89, 1, [(0, .wn 0 c9), (3, .pt 1 r2 []), (5, .d c10), (6, .d (.int .i64)), (7, .pt 2 r12 []), (22, .wn 0 c9), (23, .d (.int .i64)), (26, .d c0), (27, .d c0), (28, .d .bool)], [.row 67 c9, .var 43 (.d c0), .var 85 (.d c11)]⟩
def z2d : XS := .one (.exit 2) z9u.xe
theorem zg3 : z2d.OK := XS.one_ok (z0c z9u)
def z2b : Shp := ⟨89, 1, [(0, .wn 0 c9), (3, .pt 1 r2 []), (5, .d c10), (6, .d (.int .i64)), (7, .pt 2 r12 []), (8, .d (.int .i64)), (22, .wn 0 c9), (23, .d (.int .i64)), (26, .d c0), (27, .d c0), (28, .d .bool)], [.row 67 c9, .var 43 (.d c0), .var 85 (.d c11)]⟩
abbrev z5e := (List T3) × Int × Int × Int × T0 × T0 × Bool × (List T1) × T0 × T3
abbrev zai := ((List T3) × Int × Int × T0 × T0 × Bool × (List T1) × T0 × T3)
def z5c (out : List T3) (i : Int) (k : Int) (t23 : Int) (t26 : T0) (t27 : T0) (t28 : Bool) (l : List T1) (obj : T0) (v : T3) : Option (z5e ⊕ zai) :=
 z0u (List.length l) (
 bif ltI k (List.length l : Nat) then
 (show Option (((List T3) × Int × Int × Int × T0 × T0 × Bool × Bool × (List T1) × T0 × T3)) from
 bif inI k (List.length l) then
 (l[k.toNat]?).bind fun x =>
 (zg9 x).bind fun r =>
 bif r then
 bif inI k (List.length l) then
 (l[k.toNat]?).bind fun x2 =>
 bif eqU c0 x2.2.2.2.1 obj then
 bif inI k (List.length l) then
 (l[k.toNat]?).bind fun x3 =>
 (ziz x3.2.2.2.2.2.2.2.1 v.1).bind fun r2 =>
 bif Nat.beq (List.length l) (List.length l) then
 bif Nat.beq (List.length l) (List.length l) then
 some (out, i, k, t23, t26, t27, t28, r2, l, obj, v)
 else none
 else none
 else none
 else
 bif Nat.beq (List.length l) (List.length l) then
 bif Nat.beq (List.length l) (List.length l) then
 some (out, i, k, t23, t26, t27, t28, false, l, obj, v)
 else none
 else none
 else none
 else
 bif Nat.beq (List.length l) (List.length l) then
 bif Nat.beq (List.length l) (List.length l) then
 some (out, i, k, t23, t26, t27, t28, false, l, obj, v)
 else none
 else none
 else none).bind fun j =>
 bif j.2.2.2.2.2.2.2.1 then
 bif inI j.2.2.1 (List.length j.2.2.2.2.2.2.2.2.1) then
 (j.2.2.2.2.2.2.2.2.1[j.2.2.1.toNat]?).bind fun x4 =>
 (za3 j.2.2.2.2.2.2.2.2.2.2.2.2 x4.1).bind fun r3 =>
 bif Nat.beq (List.length j.2.2.2.2.2.2.2.2.1) (List.length j.2.2.2.2.2.2.2.2.1) then
 bif Nat.beq (List.length j.2.2.2.2.2.2.2.2.1) (List.length j.2.2.2.2.2.2.2.2.1) then
 some (.inl (j.1, j.2.1, W64 (j.2.2.1 + 1), j.2.2.2.1, j.2.2.2.2.1, j.2.2.2.2.2.1, j.2.2.2.2.2.2.1, j.2.2.2.2.2.2.2.2.1, j.2.2.2.2.2.2.2.2.2.1, (j.2.2.2.2.2.2.2.2.2.2.1, j.2.2.2.2.2.2.2.2.2.2.2.1, r3)))
 else none
 else none
 else none
 else
 bif Nat.beq (List.length j.2.2.2.2.2.2.2.2.1) (List.length j.2.2.2.2.2.2.2.2.1) then
 bif Nat.beq (List.length j.2.2.2.2.2.2.2.2.1) (List.length j.2.2.2.2.2.2.2.2.1) then
 some (.inl (j.1, j.2.1, W64 (j.2.2.1 + 1), j.2.2.2.1, j.2.2.2.2.1, j.2.2.2.2.2.1, j.2.2.2.2.2.2.1, j.2.2.2.2.2.2.2.2.1, j.2.2.2.2.2.2.2.2.2.1, j.2.2.2.2.2.2.2.2.2.2))
 else none
 else none
 else
 bif Nat.beq (List.length l) (List.length l) then
 bif Nat.beq (List.length l) (List.length l) then
 some (.inr (out, i, t23, t26, t27, t28, l, obj, v))
 else none
 else none)
def z1d (s : z5e) : Option (z5e ⊕ zai) := z5c s.1 s.2.1 s.2.2.1 s.2.2.2.1 s.2.2.2.2.1 s.2.2.2.2.2.1 s.2.2.2.2.2.2.1 s.2.2.2.2.2.2.2.1 s.2.2.2.2.2.2.2.2.1 s.2.2.2.2.2.2.2.2.2
theorem zgd : SoundD Try.prog (.loop (subC (bodyC Try.f55) [1, 1, 0, 1, 0, 0, 1, 0, 0, 1, 1, 0, 1, 0, 0])) (loopD z2b.xe z2d (loopC z1d)) :=
 z0v (S := z2b.xe) (X := z2d) zl3 (h := (.two .no (.two (.join (fun _ => z3l) .no .no) .no))) (z0p [.xs (fun _ => z3l)] (by kernel_rfl) ⟨(z2k zdw), trivial⟩) (z0c z2b) zg3 z1d (fun s => by kernel_rfl)
def zhw : Shp := ⟨89, 1, [(5, .d c10)], [.row 67 c9]⟩
def z6h : XS := .one (.exit 0) zhw.xe
theorem zsn : z6h.OK := XS.one_ok (z0c zhw)
def z6m : Shp := ⟨89, 1, [(0, .wn 0 c9), (3, .pt 1 r2 []), (5, .d c10), (6, .d (.int .i64))], [.row 67 c9, .var 43 (.d c0)]⟩
abbrev zdq := (List T3) × Int × (List T1) × T0
abbrev zjs := ((List T3) × (List T1))
def zds (out : List T3) (i : Int) (l : List T1) (obj : T0) : Option (zdq ⊕ zjs) :=
 z0u (List.length l) (
 bif ltI i (List.length l : Nat) then
 bif inI i (List.length l) then
 (l[i.toNat]?).bind fun x =>
 (zg9 x).bind fun r =>
 bif !r then
 bif Nat.beq (List.length l) (List.length l) then
 some (.inl (out, W64 (i + 1), l, obj))
 else none
 else
 bif inI i (List.length l) then
 (l[i.toNat]?).bind fun x2 =>
 bif !(eqU c0 x2.2.2.2.1 obj) then
 bif Nat.beq (List.length l) (List.length l) then
 some (.inl (out, W64 (i + 1), l, obj))
 else none
 else
 bif inI i (List.length l) then
 (l[i.toNat]?).bind fun x3 =>
 bif inI i (List.length l) then
 (l[i.toNat]?).bind fun x4 =>
 winK l 0 (List.length l) fun w =>
 (z18a w x4.1).bind fun r2 =>
 bif Nat.beq (List.length l) (List.length l) then
 bif Nat.beq (List.length l) (List.length l) then
 (loopC z1d (out, i, 0, i, x2.2.2.2.1, obj, !(eqU c0 x2.2.2.2.1 obj), l, obj, (x3.1, r2, List.replicate 8 (0 : Int)))).bind fun o =>
 (zx3 o.1 [] o.2.2.2.2.2.2.2.2).bind fun r3 =>
 bif Nat.beq (List.length o.2.2.2.2.2.2.1) (List.length o.2.2.2.2.2.2.1) then
 some (.inl (r3.1, W64 (o.2.1 + 1), o.2.2.2.2.2.2.1, o.2.2.2.2.2.2.2.1))
 else none
 else none
 else none
 else none
 else none
 else none
 else none
 else
 some (.inr (out, l)))
def z3a (s : zdq) : Option (zdq ⊕ zjs) := zds s.1 s.2.1 s.2.2.1 s.2.2.2
theorem zui : SoundD Try.prog (.loop (subC (bodyC Try.f55) [1, 1, 0, 1, 0, 0])) (loopD z6m.xe z6h (loopC z3a)) :=
 z0v (S := z6m.xe) (X := z6h) zl3 (h := (.two .no (.two (.two .no (.two .no (.two (.two .no (.over (loopD z2b.xe z2d (loopC z1d)))) .no))) .no))) (z0p [.den (.loop (subC (bodyC Try.f55) [1, 1, 0, 1, 0, 0, 1, 0, 0, 1, 1, 0, 1, 0, 0])) (loopD z2b.xe z2d (loopC z1d))] (by kernel_rfl) ⟨zgd, trivial⟩) (z0c z6m) zsn z3a (fun s => by kernel_rfl)
def ztd : Shp := ⟨1, 1, [(0, .d c10)], [.row 67 c9]⟩
def zx8 : XS := .one .ret ztd.xe
theorem z19s : zx8.OK := XS.one_ok (z0c ztd)
def zkt (obj : T0) (l : List T1) : Option (((List T3) × (List T1))) :=
 bif Nat.beq (List.length l) (List.length l) then
 (loopC z3a ([], 0, l, obj)).bind fun o =>
 some (o.1, o.2)
 else none
def zxj : Sig := ⟨55, [.wn 0 c9, .d c0], [.row 67 c9], 1, zx8⟩
def zuw (x : T0 × (List T1)) : Option (((List T3) × (List T1))) := zkt x.1 x.2
theorem z1e3 : FnOK Try.prog zxj zuw :=
 fn_ok zl3 (h := (.two .no (.two .no (.two (.two .no (.over (loopD z6m.xe z6h (loopC z3a)))) .no)))) Try.func55 (z0p [.den (.loop (subC (bodyC Try.f55) [1, 1, 0, 1, 0, 0])) (loopD z6m.xe z6h (loopC z3a))] (by kernel_rfl) ⟨zui, trivial⟩) (by kernel_rfl) z19s (fun x => by kernel_rfl)
def z1js : Env := ⟨[(entQ zc8 zas), (entQ z9m z7t), (entQ zms zlq)], [], [(entD zxj zuw)]⟩
theorem zxb : EnvsOK Try.prog z1js := ⟨z0o (z0q zct) (z0o (z0q z9y) (z0o (z0q zra) (z0w _))), z0s _, z1q0 (z1vi z1e3) (z0t _)⟩
def ze1 : Shp := ⟨85, 1, [(0, .wn 0 c9), (3, .pt 1 r8 []), (4, .pt 2 r13 []), (5, .pt 3 r13 []), (6, .d (.int .i64))], [.row 67 c9, .var 67 (.d c9), .var 49 (.d c14), .var 49 (.d c14)]⟩
def za4 : XS := .one .normal ze1.xe
theorem zm0 : za4.OK := XS.one_ok (z0c ze1)
def zd6 : Shp := ⟨85, 1, [(0, .wn 0 c9), (3, .pt 1 r8 []), (4, .pt 2 r13 []), (5, .pt 3 r13 []), (6, .d (.int .i64)), (50, .d .bool)], [.row 67 c9, .var 67 (.d c9), .var 49 (.d c14), .var 49 (.d c14)]⟩
def z8y : XS := .one .normal zd6.xe
theorem zkp : z8y.OK := XS.one_ok (z0c zd6)
def zjr : Shp := ⟨85, 1, [(4, .pt 1 r13 []), (5, .pt 2 r13 [])], [.row 67 c9, .var 49 (.d c14), .var 49 (.d c14)]⟩
def z7p : XS := .one (.exit 0) zjr.xe
theorem zum : z7p.OK := XS.one_ok (z0c zjr)
def z7r : Shp := ⟨85, 1, [(0, .wn 0 c9), (3, .pt 1 r8 []), (4, .pt 2 r13 []), (5, .pt 3 r13 []), (6, .d (.int .i64))], [.row 67 c9, .var 67 (.d c9), .var 49 (.d c14), .var 49 (.d c14)]⟩
abbrev zf5 := Int × (List T1) × T1 × T4 × T4
abbrev zlg := ((List T1) × T4 × T4)
def zex (i : Int) (l : List T1) (t3 : T1) (t4 : T4) (o : T4) : Option (zf5 ⊕ zlg) :=
 z0u (List.length l) (
 bif ltI i (List.length l : Nat) then
 bif inI i (List.length l) then
 (l[i.toNat]?).bind fun x =>
 bif !(eqU c0 x.2.2.2.1 t3.1) then
 bif Nat.beq (List.length l) (List.length l) then
 some (.inl (W64 (i + 1), l, t3, t4, o))
 else none
 else
 (show Option ((Int × (List T1) × T1 × T4 × T4)) from
 (show Option ((Int × Bool × (List T1) × T1 × T4 × T4)) from
 bif inI i (List.length l) then
 (l[i.toNat]?).bind fun x2 =>
 bif eqI x2.2.2.1 7 then
 bif inI i (List.length l) then
 (l[i.toNat]?).bind fun x3 =>
 (zbp o.2.2.1 x3.1).bind fun r =>
 bif Nat.beq (List.length l) (List.length l) then
 some (i, r, l, t3, t4, o)
 else none
 else none
 else
 bif Nat.beq (List.length l) (List.length l) then
 some (i, false, l, t3, t4, o)
 else none
 else none).bind fun j =>
 bif j.2.1 then
 bif inI j.1 (List.length j.2.2.1) then
 (j.2.2.1[j.1.toNat]?).bind fun x4 =>
 bif inI j.1 (List.length j.2.2.1) then
 (j.2.2.1[j.1.toNat]?).bind fun x5 =>
 bif Nat.beq (List.length j.2.2.1) (List.length j.2.2.1) then
 some (j.1, j.2.2.1, j.2.2.2.1, j.2.2.2.2.1, ((j.2.2.2.2.2.1, j.2.2.2.2.2.2.1, x4.1, j.2.2.2.2.2.2.2.2).1, (j.2.2.2.2.2.1, j.2.2.2.2.2.2.1, x4.1, j.2.2.2.2.2.2.2.2).2.1, (j.2.2.2.2.2.1, j.2.2.2.2.2.2.1, x4.1, j.2.2.2.2.2.2.2.2).2.2.1, x5.2.2.2.2.2.1, (j.2.2.2.2.2.1, j.2.2.2.2.2.2.1, x4.1, j.2.2.2.2.2.2.2.2).2.2.2.2))
 else none
 else none
 else none
 else
 bif Nat.beq (List.length j.2.2.1) (List.length j.2.2.1) then
 some (j.1, j.2.2.1, j.2.2.2.1, j.2.2.2.2.1, j.2.2.2.2.2)
 else none).bind fun j2 =>
 bif inI j2.1 (List.length j2.2.1) then
 (j2.2.1[j2.1.toNat]?).bind fun x6 =>
 bif eqI x6.2.2.1 6 then
 bif inI j2.1 (List.length j2.2.1) then
 (j2.2.1[j2.1.toNat]?).bind fun x7 =>
 bif inI j2.1 (List.length j2.2.1) then
 (j2.2.1[j2.1.toNat]?).bind fun x8 =>
 (za3 x7.2.1 x8.1).bind fun r2 =>
 (zkn j2.2.2.2.2.2.2.2.2.1 r2).bind fun r3 =>
 bif Nat.beq (List.length j2.2.1) (List.length j2.2.1) then
 some (.inl (W64 (j2.1 + 1), j2.2.1, j2.2.2.1, j2.2.2.2.1, (j2.2.2.2.2.1, j2.2.2.2.2.2.1, j2.2.2.2.2.2.2.1, j2.2.2.2.2.2.2.2.1, r3, j2.2.2.2.2.2.2.2.2.2)))
 else none
 else none
 else none
 else
 bif Nat.beq (List.length j2.2.1) (List.length j2.2.1) then
 some (.inl (W64 (j2.1 + 1), j2.2.1, j2.2.2.1, j2.2.2.2.1, j2.2.2.2.2))
 else none
 else none
 else none
 else
 some (.inr (l, t4, o)))
def z3o (s : zf5) : Option (zf5 ⊕ zlg) := zex s.1 s.2.1 s.2.2.1 s.2.2.2.1 s.2.2.2.2
theorem zvy : SoundD Try.prog (.loop (subC (bodyC Try.f30) [1, 1, 0, 1, 0, 0])) (loopD z7r.xe z7p (loopC z3o)) :=
 z0v (S := z7r.xe) (X := z7p) zxb (h := (.two .no (.two (.two .no (.join (fun _ => za4) (.join (fun _ => z8y) .no .no) .no)) .no))) (z0p [.xs (fun _ => za4), .xs (fun _ => z8y)] (by kernel_rfl) ⟨(z2k zm0), (z2k zkp), trivial⟩) (z0c z7r) zum z3o (fun s => by kernel_rfl)
def zxi : Shp := ⟨1, 1, [(0, .d c14)], [.row 67 c9]⟩
def z11k : XS := .one .ret zxi.xe
theorem z1ea : z11k.OK := XS.one_ok (z0c zxi)
def zou (t1 : T1) (l : List T1) : Option ((T4 × (List T1))) :=
 bif Nat.beq (List.length l) (List.length l) then
 (zkt t1.1 l).bind fun r =>
 bif Nat.beq (List.length l) (List.length r.2) then
 (loopC z3o (0, r.2, t1, ((0, 0), false, (0, 0), [], List.replicate 8 (0 : Int), []), (t1.1, eqI t1.2.2.1 2, t1.1, t1.2.2.2.2.2.1, List.replicate 8 (0 : Int), r.1))).bind fun o =>
 some (o.2.2, o.1)
 else none
 else none
def z11a : Sig := ⟨30, [.wn 0 c9, .d c9], [.row 67 c9], 1, z11k⟩
def zz7 (x : T1 × (List T1)) : Option ((T4 × (List T1))) := zou x.1 x.2
theorem z1i2 : FnOK Try.prog z11a zz7 :=
 fn_ok zxb (h := (.two .no (.two .no (.two (.two .no (.over (loopD z7r.xe z7p (loopC z3o)))) .no)))) Try.func30 (z0p [.den (.loop (subC (bodyC Try.f30) [1, 1, 0, 1, 0, 0])) (loopD z7r.xe z7p (loopC z3o))] (by kernel_rfl) ⟨zvy, trivial⟩) (by kernel_rfl) z1ea (fun x => by kernel_rfl)
def z1lm : Env := ⟨[(entQ zxw zve), (entQ zc8 zas), (entQ zqs zna), (entQ z9m z7t)], [(entP zyk zwo), (entP z11a zz7)], []⟩
theorem zpo : EnvsOK Try.prog z1lm := ⟨z0o (z0q z1a6) (z0o (z0q zct) (z0o (z0q ztl) (z0o (z0q z9y) (z0w _)))), zca (zg2 z1fx) (zca (zg2 z1i2) (z0s _)), z0t _⟩
def zdd : Shp := ⟨108, 1, [(0, .wn 0 c9), (2, .pt 1 r15 []), (3, .pt 2 r15 []), (4, .pt 3 (.one (.arr 8 .leaf)) []), (5, .d (.int .i64)), (6, .pt 4 r8 [])], [.row 67 c9, .var 33 (.ag [.d c1, .wn 5 c14, .wn 6 c6, .d c16, .d (.arr 8 .bool)]), .var 33 (.ag [.d c1, .wn 7 c14, .d c5, .d c16, .d (.arr 8 .bool)]), .var 25 (.d c1), .var 67 (.d c9), .row 49 c14, .row 45 c6, .row 49 c14]⟩
def z9k : XS := .one .normal zdd.xe
theorem zl6 : z9k.OK := XS.one_ok (z0c zdd)
def zcn : Shp := ⟨108, 1, [(0, .wn 0 c9), (2, .pt 1 r15 []), (3, .pt 2 r15 []), (4, .pt 3 (.one (.arr 8 .leaf)) []), (5, .d (.int .i64)), (6, .pt 4 r8 []), (33, .d .bool)], [.row 67 c9, .var 33 (.ag [.d c1, .wn 5 c14, .wn 6 c6, .d c16, .d (.arr 8 .bool)]), .var 33 (.ag [.d c1, .wn 7 c14, .d c5, .d c16, .d (.arr 8 .bool)]), .var 25 (.d c1), .var 67 (.d c9), .row 49 c14, .row 45 c6, .row 49 c14]⟩
def z8f : XS := .one .normal zcn.xe
theorem zjy : z8f.OK := XS.one_ok (z0c zcn)
def z7l : Shp := ⟨108, 1, [(0, .wn 0 c9), (2, .pt 1 r15 []), (3, .pt 2 r15 []), (4, .pt 3 (.one (.arr 8 .leaf)) []), (5, .d (.int .i64)), (6, .pt 4 r8 []), (7, .pt 5 r13 []), (8, .d (.int .i64))], [.row 67 c9, .var 33 (.ag [.d c1, .wn 6 c14, .wn 7 c6, .d c16, .d (.arr 8 .bool)]), .var 33 (.ag [.d c1, .wn 8 c14, .d c5, .d c16, .d (.arr 8 .bool)]), .var 25 (.d c1), .var 67 (.d c9), .var 49 (.d c14), .row 49 c14, .row 45 c6, .row 49 c14]⟩
def z1n : XS := .one (.exit 2) z7l.xe
theorem zed : z1n.OK := XS.one_ok (z0c z7l)
def z1o : Shp := ⟨108, 1, [(0, .wn 0 c9), (2, .pt 1 r15 []), (3, .pt 2 r15 []), (4, .pt 3 (.one (.arr 8 .leaf)) []), (5, .d (.int .i64)), (6, .pt 4 r8 []), (7, .pt 5 r13 []), (8, .d (.int .i64))], [.row 67 c9, .var 33 (.ag [.d c1, .wn 6 c14, .wn 7 c6, .d c16, .d (.arr 8 .bool)]), .var 33 (.ag [.d c1, .wn 8 c14, .d c5, .d c16, .d (.arr 8 .bool)]), .var 25 (.d c1), .var 67 (.d c9), .var 49 (.d c14), .row 49 c14, .row 45 c6, .row 49 c14]⟩
abbrev z3t := Int × Int × (List T1) × (List Int) × (List Int) × (List Bool) × (List Int) × (List T2) × (List Int) × (List Bool) × (List Int) × T1 × T4 × (List T4) × (List T2) × (List T4)
abbrev z7w := (Int × Int × (List T1) × (List Int) × (List Int) × (List Bool) × (List Int) × (List T2) × (List Int) × (List Bool) × (List Int) × T1 × T4 × (List T4) × (List T2) × (List T4))
def z3r (i : Int) (k : Int) (l : List T1) (t2 : List Int) (t22 : List Int) (t23 : List Bool) (t3 : List Int) (t32 : List T2) (t33 : List Int) (t34 : List Bool) (latest : List Int) (t6 : T1) (o : T4) (t24 : List T4) (t25 : List T2) (t35 : List T4) : Option (z3t ⊕ z7w) :=
 bif ltI 0 k then
 bif inI (W64 (k - 1)) (List.length t35) then
 (t35[(W64 (k - 1)).toNat]?).bind fun x =>
 (zbp o.1 x.1).bind fun r =>
 bif r then
 bif Nat.beq (List.length l) (List.length l) then
 bif Nat.beq (List.length t24) (List.length t24) then
 bif Nat.beq (List.length t25) (List.length t25) then
 bif Nat.beq (List.length t35) (List.length t35) then
 some (.inl (i, W64 (k - 1), l, t2, t22, t23, t3, t32, t33, t34, latest, t6, o, t24, t25, t35))
 else none
 else none
 else none
 else none
 else
 bif Nat.beq (List.length l) (List.length l) then
 bif Nat.beq (List.length t24) (List.length t24) then
 bif Nat.beq (List.length t25) (List.length t25) then
 bif Nat.beq (List.length t35) (List.length t35) then
 some (.inr (i, k, l, t2, t22, t23, t3, t32, t33, t34, latest, t6, o, t24, t25, t35))
 else none
 else none
 else none
 else none
 else none
 else
 bif Nat.beq (List.length l) (List.length l) then
 bif Nat.beq (List.length t24) (List.length t24) then
 bif Nat.beq (List.length t25) (List.length t25) then
 bif Nat.beq (List.length t35) (List.length t35) then
 some (.inr (i, k, l, t2, t22, t23, t3, t32, t33, t34, latest, t6, o, t24, t25, t35))
 else none
 else none
 else none
 else none
def z1a (s : z3t) : Option (z3t ⊕ z7w) := z3r s.1 s.2.1 s.2.2.1 s.2.2.2.1 s.2.2.2.2.1 s.2.2.2.2.2.1 s.2.2.2.2.2.2.1 s.2.2.2.2.2.2.2.1 s.2.2.2.2.2.2.2.2.1 s.2.2.2.2.2.2.2.2.2.1 s.2.2.2.2.2.2.2.2.2.2.1 s.2.2.2.2.2.2.2.2.2.2.2.1 s.2.2.2.2.2.2.2.2.2.2.2.2.1 s.2.2.2.2.2.2.2.2.2.2.2.2.2.1 s.2.2.2.2.2.2.2.2.2.2.2.2.2.2.1 s.2.2.2.2.2.2.2.2.2.2.2.2.2.2.2
theorem zeq : SoundD Try.prog (.loop (subC (bodyC Try.f10) [1, 1, 1, 0, 1, 0, 0, 1, 0, 0, 1, 0, 1, 0, 1, 1, 0, 0, 0])) (loopD z1o.xe z1n (loopC z1a)) :=
 z0v (S := z1o.xe) (X := z1n) zpo (h := .no) (z0p [] (by kernel_rfl) trivial) (z0c z1o) zed z1a (fun s => by kernel_rfl)
def zcr : Shp := ⟨108, 1, [(0, .wn 0 c9), (2, .pt 1 r15 []), (3, .pt 2 r15 []), (4, .pt 3 (.one (.arr 8 .leaf)) []), (5, .d (.int .i64)), (6, .pt 4 r8 [])], [.row 67 c9, .var 33 (.ag [.d c1, .wn 5 c14, .wn 6 c6, .d c16, .d (.arr 8 .bool)]), .var 33 (.ag [.d c1, .wn 7 c14, .d c5, .d c16, .d (.arr 8 .bool)]), .var 25 (.d c1), .var 67 (.d c9), .row 49 c14, .row 45 c6, .row 49 c14]⟩
def z8c : XS := .one .normal zcr.xe
theorem zk0 : z8c.OK := XS.one_ok (z0c zcr)
def zc5 : Shp := ⟨108, 1, [(0, .wn 0 c9), (2, .pt 1 r15 []), (3, .pt 2 r15 []), (4, .pt 3 (.one (.arr 8 .leaf)) []), (5, .d (.int .i64)), (6, .pt 4 r8 []), (85, .d .bool)], [.row 67 c9, .var 33 (.ag [.d c1, .wn 5 c14, .wn 6 c6, .d c16, .d (.arr 8 .bool)]), .var 33 (.ag [.d c1, .wn 7 c14, .d c5, .d c16, .d (.arr 8 .bool)]), .var 25 (.d c1), .var 67 (.d c9), .row 49 c14, .row 45 c6, .row 49 c14]⟩
def z7k : XS := .one .normal zc5.xe
theorem zj8 : z7k.OK := XS.one_ok (z0c zc5)
def zj1 : Shp := ⟨108, 1, [(2, .pt 1 r15 []), (3, .pt 2 r15 [])], [.row 67 c9, .var 33 (.ag [.d c1, .wn 3 c14, .wn 4 c6, .d c16, .d (.arr 8 .bool)]), .var 33 (.ag [.d c1, .wn 5 c14, .d c5, .d c16, .d (.arr 8 .bool)]), .row 49 c14, .row 45 c6, .row 49 c14]⟩
def z7b : XS := .one (.exit 0) zj1.xe
theorem zt4 : z7b.OK := XS.one_ok (z0c zj1)
def z7d : Shp := ⟨108, 1, [(0, .wn 0 c9), (2, .pt 1 r15 []), (3, .pt 2 r15 []), (4, .pt 3 (.one (.arr 8 .leaf)) []), (5, .d (.int .i64))], [.row 67 c9, .var 33 (.ag [.d c1, .wn 4 c14, .wn 5 c6, .d c16, .d (.arr 8 .bool)]), .var 33 (.ag [.d c1, .wn 6 c14, .d c5, .d c16, .d (.arr 8 .bool)]), .var 25 (.d c1), .row 49 c14, .row 45 c6, .row 49 c14]⟩
abbrev zeh := Int × (List T1) × (List Int) × (List Int) × (List Bool) × (List Int) × (List T2) × (List Int) × (List Bool) × (List Int) × (List T4) × (List T2) × (List T4)
abbrev zkb := ((List T1) × (List Int) × (List Int) × (List Bool) × (List Int) × (List T2) × (List Int) × (List Bool) × (List T4) × (List T2) × (List T4))
def zei (i : Int) (l : List T1) (t2 : List Int) (t22 : List Int) (t23 : List Bool) (t3 : List Int) (t32 : List T2) (t33 : List Int) (t34 : List Bool) (latest : List Int) (t24 : List T4) (t25 : List T2) (t35 : List T4) : Option (zeh ⊕ zkb) :=
 z0u (List.length l) (
 bif ltI i (List.length l : Nat) then
 bif inI i (List.length l) then
 (l[i.toNat]?).bind fun x =>
 (show Option ((Int × (List T1) × (List Int) × (List Int) × (List Bool) × (List Int) × (List T2) × (List Int) × (List Bool) × (List Int) × T1 × (List T4) × (List T2) × (List T4))) from
 (show Option ((Int × Bool × (List T1) × (List Int) × (List Int) × (List Bool) × (List Int) × (List T2) × (List Int) × (List Bool) × (List Int) × T1 × (List T4) × (List T2) × (List T4))) from
 bif eqI x.2.2.1 1 then
 bif Nat.beq (List.length l) (List.length l) then
 bif Nat.beq (List.length t24) (List.length t24) then
 bif Nat.beq (List.length t25) (List.length t25) then
 bif Nat.beq (List.length t35) (List.length t35) then
 some (i, true, l, t2, t22, t23, t3, t32, t33, t34, latest, x, t24, t25, t35)
 else none
 else none
 else none
 else none
 else
 bif Nat.beq (List.length l) (List.length l) then
 bif Nat.beq (List.length t24) (List.length t24) then
 bif Nat.beq (List.length t25) (List.length t25) then
 bif Nat.beq (List.length t35) (List.length t35) then
 some (i, eqI x.2.2.1 2, l, t2, t22, t23, t3, t32, t33, t34, latest, x, t24, t25, t35)
 else none
 else none
 else none
 else none).bind fun j =>
 bif j.2.1 then
 bif Nat.beq (List.length j.2.2.1) (List.length j.2.2.1) then
 (zou j.2.2.2.2.2.2.2.2.2.2.2.1 j.2.2.1).bind fun r =>
 z0u (List.length j.2.2.2.2.2.2.2.2.2.2.2.2.2.2) (
 bif Nat.beq (List.length j.2.2.1) (List.length r.2) then
 bif Nat.beq (List.length j.2.2.2.2.2.2.2.2.2.2.2.2.1) (List.length j.2.2.2.2.2.2.2.2.2.2.2.2.1) then
 bif Nat.beq (List.length j.2.2.2.2.2.2.2.2.2.2.2.2.2.1) (List.length j.2.2.2.2.2.2.2.2.2.2.2.2.2.1) then
 bif Nat.beq (List.length j.2.2.2.2.2.2.2.2.2.2.2.2.2.2) (List.length j.2.2.2.2.2.2.2.2.2.2.2.2.2.2) then
 (loopC z1a (j.1, (List.length j.2.2.2.2.2.2.2.2.2.2.2.2.2.2 : Nat), r.2, j.2.2.2.1, j.2.2.2.2.1, j.2.2.2.2.2.1, j.2.2.2.2.2.2.1, j.2.2.2.2.2.2.2.1, j.2.2.2.2.2.2.2.2.1, j.2.2.2.2.2.2.2.2.2.1, j.2.2.2.2.2.2.2.2.2.2.1, j.2.2.2.2.2.2.2.2.2.2.2.1, r.1, j.2.2.2.2.2.2.2.2.2.2.2.2.1, j.2.2.2.2.2.2.2.2.2.2.2.2.2.1, j.2.2.2.2.2.2.2.2.2.2.2.2.2.2)).bind fun o =>
 bif subOk o.2.1 (List.length o.2.2.2.2.2.2.2.2.2.2.2.2.2.2.2 : Nat) (List.length o.2.2.2.2.2.2.2.2.2.2.2.2.2.2.2) then
 winK o.2.2.2.2.2.2.2.2.2.2.2.2.2.2.2 o.2.1.toNat ((List.length o.2.2.2.2.2.2.2.2.2.2.2.2.2.2.2) - o.2.1.toNat) fun w =>
 appG (List.length ([o.2.2.2.2.2.2.2.2.2.2.2.2.1] : List T4)) (List.length w) 112 fun _ =>
 bif subOk 0 o.2.1 (List.length o.2.2.2.2.2.2.2.2.2.2.2.2.2.2.2) then
 winK o.2.2.2.2.2.2.2.2.2.2.2.2.2.2.2 0 o.2.1.toNat fun w2 =>
 appG (List.length ([] : List T4)) (List.length w2) 112 fun _ =>
 bif Nat.beq (List.length w2) (List.length w2) then
 appG (List.length w2) (List.length (([o.2.2.2.2.2.2.2.2.2.2.2.2.1] : List T4) ++ w)) 112 fun _ =>
 bif Nat.beq (List.length o.2.2.1) (List.length o.2.2.1) then
 bif Nat.beq (List.length o.2.2.2.2.2.2.2.2.2.2.2.2.2.1) (List.length o.2.2.2.2.2.2.2.2.2.2.2.2.2.1) then
 bif Nat.beq (List.length o.2.2.2.2.2.2.2.2.2.2.2.2.2.2.1) (List.length o.2.2.2.2.2.2.2.2.2.2.2.2.2.2.1) then
 bif Nat.beq (List.length (w2 ++ (([o.2.2.2.2.2.2.2.2.2.2.2.2.1] : List T4) ++ w))) (List.length (w2 ++ (([o.2.2.2.2.2.2.2.2.2.2.2.2.1] : List T4) ++ w))) then
 some (o.1, o.2.2.1, o.2.2.2.1, o.2.2.2.2.1, o.2.2.2.2.2.1, o.2.2.2.2.2.2.1, o.2.2.2.2.2.2.2.1, o.2.2.2.2.2.2.2.2.1, o.2.2.2.2.2.2.2.2.2.1, o.2.2.2.2.2.2.2.2.2.2.1, o.2.2.2.2.2.2.2.2.2.2.2.1, o.2.2.2.2.2.2.2.2.2.2.2.2.2.1, o.2.2.2.2.2.2.2.2.2.2.2.2.2.2.1, w2 ++ (([o.2.2.2.2.2.2.2.2.2.2.2.2.1] : List T4) ++ w))
 else none
 else none
 else none
 else none
 else none
 else none
 else none
 else none
 else none
 else none
 else none)
 else none
 else
 bif Nat.beq (List.length j.2.2.1) (List.length j.2.2.1) then
 bif Nat.beq (List.length j.2.2.2.2.2.2.2.2.2.2.2.2.1) (List.length j.2.2.2.2.2.2.2.2.2.2.2.2.1) then
 bif Nat.beq (List.length j.2.2.2.2.2.2.2.2.2.2.2.2.2.1) (List.length j.2.2.2.2.2.2.2.2.2.2.2.2.2.1) then
 bif Nat.beq (List.length j.2.2.2.2.2.2.2.2.2.2.2.2.2.2) (List.length j.2.2.2.2.2.2.2.2.2.2.2.2.2.2) then
 some (j.1, j.2.2.1, j.2.2.2.1, j.2.2.2.2.1, j.2.2.2.2.2.1, j.2.2.2.2.2.2.1, j.2.2.2.2.2.2.2.1, j.2.2.2.2.2.2.2.2.1, j.2.2.2.2.2.2.2.2.2.1, j.2.2.2.2.2.2.2.2.2.2.1, j.2.2.2.2.2.2.2.2.2.2.2.1, j.2.2.2.2.2.2.2.2.2.2.2.2.1, j.2.2.2.2.2.2.2.2.2.2.2.2.2.1, j.2.2.2.2.2.2.2.2.2.2.2.2.2.2)
 else none
 else none
 else none
 else none).bind fun j2 =>
 (show Option ((Int × (List T1) × (List Int) × (List Int) × (List Bool) × (List Int) × (List T2) × (List Int) × (List Bool) × (List Int) × T1 × (List T4) × (List T2) × (List T4))) from
 (show Option ((Int × Bool × (List T1) × (List Int) × (List Int) × (List Bool) × (List Int) × (List T2) × (List Int) × (List Bool) × (List Int) × T1 × (List T4) × (List T2) × (List T4))) from
 bif eqI j2.2.2.2.2.2.2.2.2.2.2.1.2.2.1 8 then
 (zoc j2.2.2.2.2.2.2.2.2.2.1 j2.2.2.2.2.2.2.2.2.2.2.1.1.1).bind fun r2 =>
 bif Nat.beq (List.length j2.2.1) (List.length j2.2.1) then
 bif Nat.beq (List.length j2.2.2.2.2.2.2.2.2.2.2.2.1) (List.length j2.2.2.2.2.2.2.2.2.2.2.2.1) then
 bif Nat.beq (List.length j2.2.2.2.2.2.2.2.2.2.2.2.2.1) (List.length j2.2.2.2.2.2.2.2.2.2.2.2.2.1) then
 bif Nat.beq (List.length j2.2.2.2.2.2.2.2.2.2.2.2.2.2) (List.length j2.2.2.2.2.2.2.2.2.2.2.2.2.2) then
 some (j2.1, ltI r2 j2.2.2.2.2.2.2.2.2.2.2.1.1.2, j2.2.1, j2.2.2.1, j2.2.2.2.1, j2.2.2.2.2.1, j2.2.2.2.2.2.1, j2.2.2.2.2.2.2.1, j2.2.2.2.2.2.2.2.1, j2.2.2.2.2.2.2.2.2.1, j2.2.2.2.2.2.2.2.2.2.1, j2.2.2.2.2.2.2.2.2.2.2.1, j2.2.2.2.2.2.2.2.2.2.2.2.1, j2.2.2.2.2.2.2.2.2.2.2.2.2.1, j2.2.2.2.2.2.2.2.2.2.2.2.2.2)
 else none
 else none
 else none
 else none
 else
 bif Nat.beq (List.length j2.2.1) (List.length j2.2.1) then
 bif Nat.beq (List.length j2.2.2.2.2.2.2.2.2.2.2.2.1) (List.length j2.2.2.2.2.2.2.2.2.2.2.2.1) then
 bif Nat.beq (List.length j2.2.2.2.2.2.2.2.2.2.2.2.2.1) (List.length j2.2.2.2.2.2.2.2.2.2.2.2.2.1) then
 bif Nat.beq (List.length j2.2.2.2.2.2.2.2.2.2.2.2.2.2) (List.length j2.2.2.2.2.2.2.2.2.2.2.2.2.2) then
 some (j2.1, false, j2.2.1, j2.2.2.1, j2.2.2.2.1, j2.2.2.2.2.1, j2.2.2.2.2.2.1, j2.2.2.2.2.2.2.1, j2.2.2.2.2.2.2.2.1, j2.2.2.2.2.2.2.2.2.1, j2.2.2.2.2.2.2.2.2.2.1, j2.2.2.2.2.2.2.2.2.2.2.1, j2.2.2.2.2.2.2.2.2.2.2.2.1, j2.2.2.2.2.2.2.2.2.2.2.2.2.1, j2.2.2.2.2.2.2.2.2.2.2.2.2.2)
 else none
 else none
 else none
 else none).bind fun j3 =>
 bif j3.2.1 then
 (za3 j3.2.2.2.2.2.2.2.2.2.2.1 j3.2.2.2.2.2.2.2.2.2.2.2.1.1).bind fun r3 =>
 bif inI (W64 (j3.2.2.2.2.2.2.2.2.2.2.2.1.1.1 - 1)) 8 then
 (j3.2.2.2.2.2.2.2.2.1[(W64 (j3.2.2.2.2.2.2.2.2.2.2.2.1.1.1 - 1)).toNat]?).bind fun _x =>
 bif Nat.beq (List.length j3.2.2.1) (List.length j3.2.2.1) then
 bif Nat.beq (List.length j3.2.2.2.2.2.2.2.2.2.2.2.2.1) (List.length j3.2.2.2.2.2.2.2.2.2.2.2.2.1) then
 bif Nat.beq (List.length j3.2.2.2.2.2.2.2.2.2.2.2.2.2.1) (List.length j3.2.2.2.2.2.2.2.2.2.2.2.2.2.1) then
 bif Nat.beq (List.length j3.2.2.2.2.2.2.2.2.2.2.2.2.2.2) (List.length j3.2.2.2.2.2.2.2.2.2.2.2.2.2.2) then
 some ((j3.1, j3.2.2.1, j3.2.2.2.1, j3.2.2.2.2.1, j3.2.2.2.2.2.1, j3.2.2.2.2.2.2.1, j3.2.2.2.2.2.2.2.1, j3.2.2.2.2.2.2.2.2.1.set ((W64 (j3.2.2.2.2.2.2.2.2.2.2.2.1.1.1 - 1)).toNat) j3.2.2.2.2.2.2.2.2.2.2.2.1.2.2.2.2.2.2.2.2.2.2, j3.2.2.2.2.2.2.2.2.2.1, r3, j3.2.2.2.2.2.2.2.2.2.2.2.1, j3.2.2.2.2.2.2.2.2.2.2.2.2.1, j3.2.2.2.2.2.2.2.2.2.2.2.2.2.1, j3.2.2.2.2.2.2.2.2.2.2.2.2.2.2))
 else none
 else none
 else none
 else none
 else none
 else
 bif Nat.beq (List.length j3.2.2.1) (List.length j3.2.2.1) then
 bif Nat.beq (List.length j3.2.2.2.2.2.2.2.2.2.2.2.2.1) (List.length j3.2.2.2.2.2.2.2.2.2.2.2.2.1) then
 bif Nat.beq (List.length j3.2.2.2.2.2.2.2.2.2.2.2.2.2.1) (List.length j3.2.2.2.2.2.2.2.2.2.2.2.2.2.1) then
 bif Nat.beq (List.length j3.2.2.2.2.2.2.2.2.2.2.2.2.2.2) (List.length j3.2.2.2.2.2.2.2.2.2.2.2.2.2.2) then
 some (j3.1, j3.2.2.1, j3.2.2.2.1, j3.2.2.2.2.1, j3.2.2.2.2.2.1, j3.2.2.2.2.2.2.1, j3.2.2.2.2.2.2.2.1, j3.2.2.2.2.2.2.2.2.1, j3.2.2.2.2.2.2.2.2.2.1, j3.2.2.2.2.2.2.2.2.2.2.1, j3.2.2.2.2.2.2.2.2.2.2.2.1, j3.2.2.2.2.2.2.2.2.2.2.2.2.1, j3.2.2.2.2.2.2.2.2.2.2.2.2.2.1, j3.2.2.2.2.2.2.2.2.2.2.2.2.2.2)
 else none
 else none
 else none
 else none).bind fun j4 =>
 bif eqI j4.2.2.2.2.2.2.2.2.2.2.1.2.2.1 9 then
 bif inI (W64 (j4.2.2.2.2.2.2.2.2.2.2.1.1.1 - 1)) 8 then
 (j4.2.2.2.2.2.2.2.2.1[(W64 (j4.2.2.2.2.2.2.2.2.2.2.1.1.1 - 1)).toNat]?).bind fun _x2 =>
 bif Nat.beq (List.length j4.2.1) (List.length j4.2.1) then
 bif Nat.beq (List.length j4.2.2.2.2.2.2.2.2.2.2.2.1) (List.length j4.2.2.2.2.2.2.2.2.2.2.2.1) then
 bif Nat.beq (List.length j4.2.2.2.2.2.2.2.2.2.2.2.2.1) (List.length j4.2.2.2.2.2.2.2.2.2.2.2.2.1) then
 bif Nat.beq (List.length j4.2.2.2.2.2.2.2.2.2.2.2.2.2) (List.length j4.2.2.2.2.2.2.2.2.2.2.2.2.2) then
 some (.inl ((W64 (j4.1 + 1), j4.2.1, j4.2.2.1, j4.2.2.2.1, j4.2.2.2.2.1, j4.2.2.2.2.2.1, j4.2.2.2.2.2.2.1, j4.2.2.2.2.2.2.2.1, j4.2.2.2.2.2.2.2.2.1.set ((W64 (j4.2.2.2.2.2.2.2.2.2.2.1.1.1 - 1)).toNat) true, j4.2.2.2.2.2.2.2.2.2.1, j4.2.2.2.2.2.2.2.2.2.2.2.1, j4.2.2.2.2.2.2.2.2.2.2.2.2.1, j4.2.2.2.2.2.2.2.2.2.2.2.2.2)))
 else none
 else none
 else none
 else none
 else none
 else
 bif Nat.beq (List.length j4.2.1) (List.length j4.2.1) then
 bif Nat.beq (List.length j4.2.2.2.2.2.2.2.2.2.2.2.1) (List.length j4.2.2.2.2.2.2.2.2.2.2.2.1) then
 bif Nat.beq (List.length j4.2.2.2.2.2.2.2.2.2.2.2.2.1) (List.length j4.2.2.2.2.2.2.2.2.2.2.2.2.1) then
 bif Nat.beq (List.length j4.2.2.2.2.2.2.2.2.2.2.2.2.2) (List.length j4.2.2.2.2.2.2.2.2.2.2.2.2.2) then
 some (.inl (W64 (j4.1 + 1), j4.2.1, j4.2.2.1, j4.2.2.2.1, j4.2.2.2.2.1, j4.2.2.2.2.2.1, j4.2.2.2.2.2.2.1, j4.2.2.2.2.2.2.2.1, j4.2.2.2.2.2.2.2.2.1, j4.2.2.2.2.2.2.2.2.2.1, j4.2.2.2.2.2.2.2.2.2.2.2.1, j4.2.2.2.2.2.2.2.2.2.2.2.2.1, j4.2.2.2.2.2.2.2.2.2.2.2.2.2))
 else none
 else none
 else none
 else none
 else none
 else
 bif Nat.beq (List.length t24) (List.length t24) then
 bif Nat.beq (List.length t25) (List.length t25) then
 bif Nat.beq (List.length t35) (List.length t35) then
 some (.inr (l, t2, t22, t23, t3, t32, t33, t34, t24, t25, t35))
 else none
 else none
 else none)
def z3f (s : zeh) : Option (zeh ⊕ zkb) := zei s.1 s.2.1 s.2.2.1 s.2.2.2.1 s.2.2.2.2.1 s.2.2.2.2.2.1 s.2.2.2.2.2.2.1 s.2.2.2.2.2.2.2.1 s.2.2.2.2.2.2.2.2.1 s.2.2.2.2.2.2.2.2.2.1 s.2.2.2.2.2.2.2.2.2.2.1 s.2.2.2.2.2.2.2.2.2.2.2.1 s.2.2.2.2.2.2.2.2.2.2.2.2
theorem zup : SoundD Try.prog (.loop (subC (bodyC Try.f10) [1, 1, 1, 0, 1, 0, 0])) (loopD z7d.xe z7b (loopC z3f)) :=
 z0v (S := z7d.xe) (X := z7b) zpo (h := (.two .no (.two (.two .no (.join (fun _ => z9k) (.join (fun _ => z8f) .no (.two (.two .no (.two .no (.two (.over (loopD z1o.xe z1n (loopC z1a))) (.two .no (.reg [5] []))))) .no)) (.join (fun _ => z8c) (.join (fun _ => z7k) .no .no) .no))) .no))) (z0p [.xs (fun _ => z9k), .xs (fun _ => z8f), .den (.loop (subC (bodyC Try.f10) [1, 1, 1, 0, 1, 0, 0, 1, 0, 0, 1, 0, 1, 0, 1, 1, 0, 0, 0])) (loopD z1o.xe z1n (loopC z1a)), .xs (fun _ => z8c), .xs (fun _ => z7k)] (by kernel_rfl) ⟨(z2k zl6), (z2k zjy), zeq, (z2k zk0), (z2k zj8), trivial⟩) (z0c z7d) zt4 z3f (fun s => by kernel_rfl)
def zz6 : Shp := ⟨1, 1, [(0, .ag [.d c1, .wn 1 c14, .d c5, .d c16, .d (.arr 8 .bool)])], [.row 67 c9, .row 49 c14]⟩
def z15x : XS := .one .ret zz6.xe
theorem z1en : z15x.OK := XS.one_ok (z0c zz6)
def zrc (l : List T1) : Option (((List Int) × (List T2) × (List Int) × (List Bool) × (List T1) × (List T4))) :=
 winK l 0 (List.length l) fun w =>
 (zqw w).bind fun r =>
 bif Nat.beq (List.length l) (List.length l) then
 (zmk l).bind fun r2 =>
 bif Nat.beq (List.length l) (List.length r2.2) then
 bif Nat.beq 0 (List.length ([] : List T4)) then
 bif Nat.beq 0 (List.length ([] : List T2)) then
 bif Nat.beq 0 (List.length ([] : List T4)) then
 (loopC z3f (0, r2.2, List.replicate 8 (0 : Int), List.replicate 8 (0 : Int), List.replicate 8 false, r, r2.1, List.replicate 8 (0 : Int), List.replicate 8 false, List.replicate 8 (0 : Int), ([] : List T4), ([] : List T2), ([] : List T4))).bind fun o =>
 bif Nat.beq (List.length o.2.2.2.2.2.2.2.2.2.2) (List.length o.2.2.2.2.2.2.2.2.2.2) then
 some (o.2.2.2.2.1, o.2.2.2.2.2.1, o.2.2.2.2.2.2.1, o.2.2.2.2.2.2.2.1, o.1, o.2.2.2.2.2.2.2.2.2.2)
 else none
 else none
 else none
 else none
 else none
 else none
def z15c : Sig := ⟨10, [.wn 0 c9], [.row 67 c9], 1, z15x⟩
def z12y (x : (List T1)) : Option (((List Int) × (List T2) × (List Int) × (List Bool) × (List T1) × (List T4))) := zrc x
theorem z1jr : FnOK Try.prog z15c z12y :=
 fn_ok zpo (h := (.two .no (.two .no (.two .no (.two (.two .no (.over (loopD z7d.xe z7b (loopC z3f)))) .no))))) Try.func10 (z0p [.den (.loop (subC (bodyC Try.f10) [1, 1, 1, 0, 1, 0, 0])) (loopD z7d.xe z7b (loopC z3f))] (by kernel_rfl) ⟨zup, trivial⟩) (by kernel_rfl) z1en (fun x => by kernel_rfl)
def z1rx : Env := ⟨[(entQ z1iq z1gl)], [], [(entD z15c z12y)]⟩
theorem z1a1 : EnvsOK Try.prog z1rx := ⟨z0o (z0q z1t0) (z0w _), z0s _, z1q0 (z1vi z1jr) (z0t _)⟩
def znc : Shp := ⟨27, 0, [(3, .wn 0 c9)], [.row 67 c9]⟩
def zbm : XS := .one (.exit 0) znc.xe
theorem zzs : zbm.OK := XS.one_ok (z0c znc)
def zb7 : Shp := ⟨27, 0, [(0, .d c3), (3, .wn 0 c9), (4, .d (.int .i64))], [.row 67 c9]⟩
abbrev zir := (List T1) × Int × (List T1)
abbrev zqt := ((List T1))
def zi5 (l : List T1) (i : Int) (out : List T1) : Option (zir ⊕ zqt) :=
 z0u (List.length l) (
 bif ltI i (List.length l : Nat) then
 bif Nat.beq (List.length out) (List.length out) then
 (zrc out).bind fun r =>
 (idxI l i).bind fun x =>
 winK r.2.2.2.2.2 0 (List.length r.2.2.2.2.2) fun w =>
 (z16t (r.1, w, r.2.1, r.2.2.1, r.2.2.2.1) x).bind fun r2 =>
 bif eqI r2 0 then
 (idxI l i).bind fun x2 =>
 bif Nat.beq (List.length out) (List.length r.2.2.2.2.1) then
 appG (List.length r.2.2.2.2.1) (List.length ([x2] : List T1)) 184 fun _ =>
 bif Nat.beq (List.length (r.2.2.2.2.1 ++ ([x2] : List T1))) (List.length (r.2.2.2.2.1 ++ ([x2] : List T1))) then
 some (.inl (l, W64 (i + 1), r.2.2.2.2.1 ++ ([x2] : List T1)))
 else none
 else none
 else
 bif Nat.beq (List.length out) (List.length r.2.2.2.2.1) then
 some (.inl (l, W64 (i + 1), r.2.2.2.2.1))
 else none
 else none
 else
 bif Nat.beq (List.length out) (List.length out) then
 some (.inr out)
 else none)
def z5m (s : zir) : Option (zir ⊕ zqt) := zi5 s.1 s.2.1 s.2.2
theorem z11d : SoundD Try.prog (.loop (subC (bodyC Try.f11) [1, 1, 0, 1, 0, 0])) (loopD zb7.xe zbm (loopC z5m)) :=
 z0v (S := zb7.xe) (X := zbm) z1a1 (h := .no) (z0p [] (by kernel_rfl) trivial) (z0c zb7) zzs z5m (fun s => by kernel_rfl)
def z1b5 : Shp := ⟨1, 0, [(0, .d c3)], []⟩
def z1gc : XS := .one .ret z1b5.xe
theorem z1nk : z1gc.OK := XS.one_ok (z0c z1b5)
def zto (l : List T1) : Option (((List T1))) :=
 bif Nat.beq 0 (List.length ([] : List T1)) then
 (loopC z5m (l, 0, ([] : List T1))).bind fun o =>
 winK o 0 (List.length o) fun w =>
 some w
 else none
def z1fc : Sig := ⟨11, [.d c3], [], 0, z1gc⟩
def z1cz (x : (List T1)) : Option (((List T1))) := zto x
theorem z1qy : FnOK Try.prog z1fc z1cz :=
 fn_ok z1a1 (h := (.two .no (.two .no (.two (.two .no (.over (loopD zb7.xe zbm (loopC z5m)))) .no)))) Try.func11 (z0p [.den (.loop (subC (bodyC Try.f11) [1, 1, 0, 1, 0, 0])) (loopD zb7.xe zbm (loopC z5m))] (by kernel_rfl) ⟨z11d, trivial⟩) (by kernel_rfl) z1nk (fun x => by kernel_rfl)
def z1r2 : Env := ⟨[], [], []⟩
theorem z16n : EnvsOK Try.prog z1r2 := ⟨z0w _, z0s _, z0t _⟩
def zp0 : Shp := ⟨13, 0, [], []⟩
def zpc : Shp := ⟨13, 0, [(2, .d .bool)], []⟩
def zc4 : XS := .or (.exit 0) zp0.xe (.one .ret zpc.xe)
theorem z13d : zc4.OK := XS.or_ok (z0c zp0) (XS.one_ok (z0c zpc))
def zcc : Shp := ⟨13, 0, [(1, .pt 0 r7 []), (3, .d (.int .i64))], [.var 45 (.d c6)]⟩
abbrev zjp := Int × T2
abbrev zs5 := (Unit) ⊕ (Bool)
def zjo (i : Int) (x : T2) : Option (zjp ⊕ zs5) :=
 bif ltI i 8 then
 bif inI i 8 then
 (x.2.2.2.2[i.toNat]?).bind fun x2 =>
 bif neI x2 0 then
 some (.inr (.inr false))
 else
 some (.inl (W64 (i + 1), x))
 else none
 else
 some (.inr (.inl ()))
def z4v (s : zjp) : Option (zjp ⊕ zs5) := zjo s.1 s.2
theorem z14g : SoundD Try.prog (.loop (subC (bodyC Try.f18) [1, 0, 1, 0, 0])) (loopD zcc.xe zc4 (loopC z4v)) :=
 z0v (S := zcc.xe) (X := zc4) z16n (h := .no) (z0p [] (by kernel_rfl) trivial) (z0c zcc) z13d z4v (fun s => by kernel_rfl)
def z16s : Shp := ⟨1, 0, [(0, .d .bool)], []⟩
def z1dq : XS := .one .ret z16s.xe
theorem z1k2 : z1dq.OK := XS.one_ok (z0c z16s)
def zpz (x : T2) : Option ((Bool)) :=
 (loopC z4v (0, x)).bind fun o =>
 Sum.elim (fun y =>
 some true) (fun y2 =>
 some y2) o
def zy2 : Sig := ⟨18, [.d c6], [], 0, z1dq⟩
def zw6 (x : T2) : Option ((Bool)) := zpz x
theorem z1af : FnOK Try.prog zy2 zw6 :=
 fn_ok z16n (h := (.two .no (.two (.two .no (.over (loopD zcc.xe zc4 (loopC z4v)))) .no))) Try.func18 (z0p [.den (.loop (subC (bodyC Try.f18) [1, 0, 1, 0, 0])) (loopD zcc.xe zc4 (loopC z4v))] (by kernel_rfl) ⟨z14g, trivial⟩) (by kernel_rfl) z1k2 (fun x => by kernel_rfl)
def z1t3 : Env := ⟨[(entQ zy2 zw6)], [], []⟩
theorem z1o5 : EnvsOK Try.prog z1t3 := ⟨z0o (z0q z1af) (z0w _), z0s _, z0t _⟩
def z18l : Shp := ⟨1, 0, [(0, .d .bool)], []⟩
def z1h8 : XS := .one .ret z18l.xe
theorem z1lj : z1h8.OK := XS.one_ok (z0c z18l)
def zts (v : T3) : Option ((Bool)) :=
 (zpz ((0, 0), (0, 0), [], (0, 0), v.2.2)).bind fun r =>
 some r
def z12i : Sig := ⟨47, [.d c11], [], 0, z1h8⟩
def zy3 (x : T3) : Option ((Bool)) := zts x
theorem z1dt : FnOK Try.prog z12i zy3 :=
 fn_ok z1o5 (h := .no) Try.func47 (z0p [] (by kernel_rfl) trivial) (by kernel_rfl) z1lj (fun x => by kernel_rfl)
def z1sb : Env := ⟨[], [], []⟩
theorem z1ao : EnvsOK Try.prog z1sb := ⟨z0w _, z0s _, z0t _⟩
def zmy : Shp := ⟨26, 0, [], []⟩
def znl : Shp := ⟨26, 0, [(4, .d .bool)], []⟩
def zaz : XS := .or (.exit 0) zmy.xe (.one .ret znl.xe)
theorem z10m : zaz.OK := XS.or_ok (z0c zmy) (XS.one_ok (z0c znl))
def zbo : Shp := ⟨26, 0, [(0, .d c5), (1, .d c5), (5, .d (.int .i64))], []⟩
abbrev zi4 := (List T2) × (List T2) × Int
abbrev zps := (Unit) ⊕ (Bool)
def zi2 (a : List T2) (b : List T2) (i : Int) : Option (zi4 ⊕ zps) :=
 z0u (List.length a) (
 bif ltI i (List.length a : Nat) then
 (idxI a i).bind fun x =>
 (idxI b i).bind fun x2 =>
 bif !(eqU c6 x x2) then
 some (.inr (.inr false))
 else
 some (.inl (a, b, W64 (i + 1)))
 else
 some (.inr (.inl ())))
def z5o (s : zi4) : Option (zi4 ⊕ zps) := zi2 s.1 s.2.1 s.2.2
theorem z12u : SoundD Try.prog (.loop (subC (bodyC Try.f41) [1, 1, 0, 1, 0, 0])) (loopD zbo.xe zaz (loopC z5o)) :=
 z0v (S := zbo.xe) (X := zaz) z1ao (h := .no) (z0p [] (by kernel_rfl) trivial) (z0c zbo) z10m z5o (fun s => by kernel_rfl)
def z1a5 : Shp := ⟨1, 0, [(0, .d .bool)], []⟩
def z1gb : XS := .one .ret z1a5.xe
theorem z1n0 : z1gb.OK := XS.one_ok (z0c z1a5)
def zzz (a : List T2) (b : List T2) : Option ((Bool)) :=
 z0u (List.length a) (
 z0u (List.length b) (
 bif neI (List.length a : Nat) (List.length b : Nat) then
 some false
 else
 (loopC z5o (a, b, 0)).bind fun o =>
 Sum.elim (fun y =>
 some true) (fun y2 =>
 some y2) o))
def z1gk : Sig := ⟨41, [.d c5, .d c5], [], 0, z1gb⟩
def z1ck (x : (List T2) × (List T2)) : Option ((Bool)) := zzz x.1 x.2
theorem z1ql : FnOK Try.prog z1gk z1ck :=
 fn_ok z1ao (h := (.two .no (.two .no (.two (.two .no (.over (loopD zbo.xe zaz (loopC z5o)))) .no)))) Try.func41 (z0p [.den (.loop (subC (bodyC Try.f41) [1, 1, 0, 1, 0, 0])) (loopD zbo.xe zaz (loopC z5o))] (by kernel_rfl) ⟨z12u, trivial⟩) (by kernel_rfl) z1n0 (fun x => by kernel_rfl)
def z1tx : Env := ⟨[], [], []⟩
theorem z1an : EnvsOK Try.prog z1tx := ⟨z0w _, z0s _, z0t _⟩
def zn2 : Shp := ⟨26, 0, [], []⟩
def zo3 : Shp := ⟨26, 0, [(4, .d .bool)], []⟩
def zbd : XS := .or (.exit 0) zn2.xe (.one .ret zo3.xe)
theorem zzx : zbd.OK := XS.or_ok (z0c zn2) (XS.one_ok (z0c zo3))
def zbu : Shp := ⟨26, 0, [(0, .d c10), (1, .d c10), (5, .d (.int .i64))], []⟩
abbrev zie := (List T3) × (List T3) × Int
abbrev zqy := (Unit) ⊕ (Bool)
def zio (a : List T3) (b : List T3) (i : Int) : Option (zie ⊕ zqy) :=
 z0u (List.length a) (
 bif ltI i (List.length a : Nat) then
 (idxI a i).bind fun x =>
 (idxI b i).bind fun x2 =>
 bif !(eqU c11 x x2) then
 some (.inr (.inr false))
 else
 some (.inl (a, b, W64 (i + 1)))
 else
 some (.inr (.inl ())))
def z5v (s : zie) : Option (zie ⊕ zqy) := zio s.1 s.2.1 s.2.2
theorem z13b : SoundD Try.prog (.loop (subC (bodyC Try.f20) [1, 1, 0, 1, 0, 0])) (loopD zbu.xe zbd (loopC z5v)) :=
 z0v (S := zbu.xe) (X := zbd) z1an (h := .no) (z0p [] (by kernel_rfl) trivial) (z0c zbu) zzx z5v (fun s => by kernel_rfl)
def z18s : Shp := ⟨1, 0, [(0, .d .bool)], []⟩
def z1fg : XS := .one .ret z18s.xe
theorem z1lk : z1fg.OK := XS.one_ok (z0c z18s)
def zzo (a : List T3) (b : List T3) : Option ((Bool)) :=
 z0u (List.length a) (
 z0u (List.length b) (
 bif neI (List.length a : Nat) (List.length b : Nat) then
 some false
 else
 (loopC z5v (a, b, 0)).bind fun o =>
 Sum.elim (fun y =>
 some true) (fun y2 =>
 some y2) o))
def z1g5 : Sig := ⟨20, [.d c10, .d c10], [], 0, z1fg⟩
def z1cs (x : (List T3) × (List T3)) : Option ((Bool)) := zzo x.1 x.2
theorem z1qg : FnOK Try.prog z1g5 z1cs :=
 fn_ok z1an (h := (.two .no (.two .no (.two (.two .no (.over (loopD zbu.xe zbd (loopC z5v)))) .no)))) Try.func20 (z0p [.den (.loop (subC (bodyC Try.f20) [1, 1, 0, 1, 0, 0])) (loopD zbu.xe zbd (loopC z5v))] (by kernel_rfl) ⟨z13b, trivial⟩) (by kernel_rfl) z1lk (fun x => by kernel_rfl)
def z1re : Env := ⟨[(entQ z1gk z1ck), (entQ z1g5 z1cs)], [], []⟩
theorem z19l : EnvsOK Try.prog z1re := ⟨z0o (z0q z1ql) (z0o (z0q z1qg) (z0w _)), z0s _, z0t _⟩
def zo6 : Shp := ⟨102, 0, [], []⟩
def znf : Shp := ⟨102, 0, [(4, .d .bool)], []⟩
def zbr : XS := .or (.exit 0) zo6.xe (.one .ret znf.xe)
theorem zzd : zbr.OK := XS.or_ok (z0c zo6) (XS.one_ok (z0c znf))
def zb6 : Shp := ⟨102, 0, [(2, .pt 0 r15 []), (3, .pt 1 r15 []), (5, .d (.int .i64))], [.var 33 (.d c17), .var 33 (.d c17)]⟩
abbrev zi9 := Int × T5 × T5
abbrev zqp := (Unit) ⊕ (Bool)
def zig (i : Int) (a : T5) (b : T5) : Option (zi9 ⊕ zqp) :=
 z0u (List.length a.2.1) (
 bif ltI i (List.length a.2.1 : Nat) then
 (idxI a.2.1 i).bind fun x =>
 (idxI b.2.1 i).bind fun x2 =>
 bif !(eqU c0 x.1 x2.1) then
 some (.inr (.inr false))
 else
 bif !(x.2.1 == x2.2.1) then
 some (.inr (.inr false))
 else
 bif !(eqU c0 x.2.2.1 x2.2.2.1) then
 some (.inr (.inr false))
 else
 bif !(eqS x.2.2.2.1 x2.2.2.2.1) then
 some (.inr (.inr false))
 else
 bif !(eqU c1 x.2.2.2.2.1 x2.2.2.2.2.1) then
 some (.inr (.inr false))
 else
 (zzo x.2.2.2.2.2 x2.2.2.2.2.2).bind fun r =>
 bif !r then
 some (.inr (.inr false))
 else
 some (.inl (W64 (i + 1), a, b))
 else
 some (.inr (.inl ())))
def z5n (s : zi9) : Option (zi9 ⊕ zqp) := zig s.1 s.2.1 s.2.2
theorem z12j : SoundD Try.prog (.loop (subC (bodyC Try.f13) [1, 1, 0, 1, 0, 0])) (loopD zb6.xe zbr (loopC z5n)) :=
 z0v (S := zb6.xe) (X := zbr) z19l (h := .no) (z0p [] (by kernel_rfl) trivial) (z0c zb6) zzd z5n (fun s => by kernel_rfl)
def z19k : Shp := ⟨1, 0, [(0, .d .bool)], []⟩
def z1gf : XS := .one .ret z19k.xe
theorem z1ne : z1gf.OK := XS.one_ok (z0c z19k)
def zsy (a : T5) (b : T5) : Option ((Bool)) :=
 bif !(eqU c1 a.1 b.1) then
 some false
 else
 bif !(eqU c16 a.2.2.2.1 b.2.2.2.1) then
 some false
 else
 bif !(eqU (.arr 8 .bool) a.2.2.2.2 b.2.2.2.2) then
 some false
 else
 (zzz a.2.2.1 b.2.2.1).bind fun r =>
 bif !r then
 some false
 else
 z0u (List.length a.2.1) (
 z0u (List.length b.2.1) (
 bif neI (List.length a.2.1 : Nat) (List.length b.2.1 : Nat) then
 some false
 else
 (loopC z5n (0, a, b)).bind fun o =>
 Sum.elim (fun y =>
 some true) (fun y2 =>
 some y2) o))
def z1ft : Sig := ⟨13, [.d c17, .d c17], [], 0, z1gf⟩
def z1cq (x : T5 × T5) : Option ((Bool)) := zsy x.1 x.2
theorem z1qw : FnOK Try.prog z1ft z1cq :=
 fn_ok z19l (h := (.two .no (.two .no (.two (.two .no (.over (loopD zb6.xe zbr (loopC z5n)))) .no)))) Try.func13 (z0p [.den (.loop (subC (bodyC Try.f13) [1, 1, 0, 1, 0, 0])) (loopD zb6.xe zbr (loopC z5n))] (by kernel_rfl) ⟨z12j, trivial⟩) (by kernel_rfl) z1ne (fun x => by kernel_rfl)
def z1r7 : Env := ⟨[(entQ z12i zy3)], [], []⟩
theorem z16m : EnvsOK Try.prog z1r7 := ⟨z0o (z0q z1dt) (z0w _), z0s _, z0t _⟩
def zmn : Shp := ⟨24, 0, [(3, .wn 0 c11)], [.row 85 c11]⟩
def zag : XS := .one (.exit 0) zmn.xe
theorem zy4 : zag.OK := XS.one_ok (z0c zmn)
def zah : Shp := ⟨24, 0, [(0, .d c10), (3, .wn 0 c11), (4, .d (.int .i64))], [.row 85 c11]⟩
abbrev zh1 := (List T3) × Int × (List T3)
abbrev zpa := ((List T3))
def zgt (l : List T3) (i : Int) (out : List T3) : Option (zh1 ⊕ zpa) :=
 z0u (List.length l) (
 bif ltI i (List.length l : Nat) then
 (idxI l i).bind fun x =>
 (zts x).bind fun r =>
 bif r then
 (idxI l i).bind fun x2 =>
 bif Nat.beq (List.length out) (List.length out) then
 appG (List.length out) (List.length ([x2] : List T3)) 64 fun _ =>
 bif Nat.beq (List.length (out ++ ([x2] : List T3))) (List.length (out ++ ([x2] : List T3))) then
 some (.inl (l, W64 (i + 1), out ++ ([x2] : List T3)))
 else none
 else none
 else
 bif Nat.beq (List.length out) (List.length out) then
 some (.inl (l, W64 (i + 1), out))
 else none
 else
 bif Nat.beq (List.length out) (List.length out) then
 some (.inr out)
 else none)
def z5g (s : zh1) : Option (zh1 ⊕ zpa) := zgt s.1 s.2.1 s.2.2
theorem z10f : SoundD Try.prog (.loop (subC (bodyC Try.f21) [1, 1, 0, 1, 0, 0])) (loopD zah.xe zag (loopC z5g)) :=
 z0v (S := zah.xe) (X := zag) z16m (h := .no) (z0p [] (by kernel_rfl) trivial) (z0c zah) zy4 z5g (fun s => by kernel_rfl)
def z15m : Shp := ⟨1, 0, [(0, .d c10)], []⟩
def z1d6 : XS := .one .ret z15m.xe
theorem z1kh : z1d6.OK := XS.one_ok (z0c z15m)
def zwd (l : List T3) : Option (((List T3))) :=
 bif Nat.beq 0 (List.length ([] : List T3)) then
 (loopC z5g (l, 0, ([] : List T3))).bind fun o =>
 winK o 0 (List.length o) fun w =>
 some w
 else none
def z1do : Sig := ⟨21, [.d c10], [], 0, z1d6⟩
def z19f (x : (List T3)) : Option (((List T3))) := zwd x
theorem z1ny : FnOK Try.prog z1do z19f :=
 fn_ok z16m (h := (.two .no (.two .no (.two (.two .no (.over (loopD zah.xe zag (loopC z5g)))) .no)))) Try.func21 (z0p [.den (.loop (subC (bodyC Try.f21) [1, 1, 0, 1, 0, 0])) (loopD zah.xe zag (loopC z5g))] (by kernel_rfl) ⟨z10f, trivial⟩) (by kernel_rfl) z1kh (fun x => by kernel_rfl)
end Go.Proofs.Ytfbdjicfkcklfaa
set_option maxRecDepth 100000
set_option linter.unusedVariables false
noncomputable section
namespace Go.Proofs.Ytfbdjicfkcklfaa
open Go.Tm Go.Ab
def z1t4 : Env := ⟨[], [], []⟩
theorem z1a3 : EnvsOK Try.prog z1t4 := ⟨z0w _, z0s _, z0t _⟩
def zq7 : Shp := ⟨23, 0, [], []⟩
def zqc : Shp := ⟨23, 0, [(4, .d .bool)], []⟩
def zd0 : XS := .or (.exit 0) zq7.xe (.one .ret zqc.xe)
theorem z14p : zd0.OK := XS.or_ok (z0c zq7) (XS.one_ok (z0c zqc))
def zcy : Shp := ⟨23, 0, [(2, .pt 0 (.one (.arr 8 .leaf)) []), (3, .pt 1 (.one (.arr 8 .leaf)) []), (5, .d (.int .i64))], [.var 25 (.d c1), .var 25 (.d c1)]⟩
abbrev zkm := Int × (List Int) × (List Int)
abbrev zti := (Unit) ⊕ (Bool)
def zkr (i : Int) (t2 : List Int) (base : List Int) : Option (zkm ⊕ zti) :=
 bif ltI i 8 then
 bif inI i 8 then
 (t2[i.toNat]?).bind fun x =>
 bif leI 1 x then
 bif inI i 8 then
 (t2[i.toNat]?).bind fun x2 =>
 bif inI i 8 then
 (base[i.toNat]?).bind fun x3 =>
 bif leI x2 x3 then
 some (.inr (.inr true))
 else
 some (.inl (W64 (i + 1), t2, base))
 else none
 else none
 else
 some (.inl (W64 (i + 1), t2, base))
 else none
 else
 some (.inr (.inl ()))
def z5k (s : zkm) : Option (zkm ⊕ zti) := zkr s.1 s.2.1 s.2.2
theorem z17v : SoundD Try.prog (.loop (subC (bodyC Try.f73) [1, 0, 1, 0, 0])) (loopD zcy.xe zd0 (loopC z5k)) :=
 z0v (S := zcy.xe) (X := zd0) z1a3 (h := .no) (z0p [] (by kernel_rfl) trivial) (z0c zcy) z14p z5k (fun s => by kernel_rfl)
def z1a8 : Shp := ⟨1, 0, [(0, .d .bool)], []⟩
def z1gx : XS := .one .ret z1a8.xe
theorem z1n3 : z1gx.OK := XS.one_ok (z0c z1a8)
def ztm (t0 : List Int) (base : List Int) : Option ((Bool)) :=
 (loopC z5k (0, t0, base)).bind fun o =>
 Sum.elim (fun y =>
 some false) (fun y2 =>
 some y2) o
def z13j : Sig := ⟨73, [.d c1, .d c1], [], 0, z1gx⟩
def zyd (x : (List Int) × (List Int)) : Option ((Bool)) := ztm x.1 x.2
theorem z1di : FnOK Try.prog z13j zyd :=
 fn_ok z1a3 (h := (.two .no (.two (.two .no (.over (loopD zcy.xe zd0 (loopC z5k)))) .no))) Try.func73 (z0p [.den (.loop (subC (bodyC Try.f73) [1, 0, 1, 0, 0])) (loopD zcy.xe zd0 (loopC z5k))] (by kernel_rfl) ⟨z17v, trivial⟩) (by kernel_rfl) z1n3 (fun x => by kernel_rfl)
def z1ol : Env := ⟨[(entQ z12i zy3), (entQ zly zjm)], [], []⟩
theorem z12p : EnvsOK Try.prog z1ol := ⟨z0o (z0q z1dt) (z0o (z0q znx) (z0w _)), z0s _, z0t _⟩
def zo7 : Shp := ⟨27, 0, [], []⟩
def znv : Shp := ⟨27, 0, [(4, .d .bool)], []⟩
def zb8 : XS := .or (.exit 0) zo7.xe (.one .ret znv.xe)
theorem zzk : zb8.OK := XS.or_ok (z0c zo7) (XS.one_ok (z0c znv))
def zbb : Shp := ⟨27, 0, [(0, .d c10), (3, .pt 0 (.one (.arr 8 .leaf)) []), (5, .d (.int .i64))], [.var 25 (.d c1)]⟩
abbrev zil := (List T3) × Int × (List Int)
abbrev zqg := (Unit) ⊕ (Bool)
def zi8 (l : List T3) (i : Int) (seen : List Int) : Option (zil ⊕ zqg) :=
 z0u (List.length l) (
 bif ltI i (List.length l : Nat) then
 (idxI l i).bind fun x =>
 (zts x).bind fun r =>
 bif r then
 (idxI l i).bind fun x2 =>
 (zft seen x2.1).bind fun r2 =>
 bif !r2 then
 some (.inr (.inr true))
 else
 some (.inl (l, W64 (i + 1), seen))
 else
 some (.inl (l, W64 (i + 1), seen))
 else
 some (.inr (.inl ())))
def z4k (s : zil) : Option (zil ⊕ zqg) := zi8 s.1 s.2.1 s.2.2
theorem z13l : SoundD Try.prog (.loop (subC (bodyC Try.f74) [1, 0, 1, 0, 0])) (loopD zbb.xe zb8 (loopC z4k)) :=
 z0v (S := zbb.xe) (X := zb8) z12p (h := .no) (z0p [] (by kernel_rfl) trivial) (z0c zbb) zzk z4k (fun s => by kernel_rfl)
def z13r : Shp := ⟨1, 0, [(0, .d .bool)], []⟩
def z19h : XS := .one .ret z13r.xe
theorem z1hz : z19h.OK := XS.one_ok (z0c z13r)
def zu9 (l : List T3) (seen : List Int) : Option ((Bool)) :=
 (loopC z4k (l, 0, seen)).bind fun o =>
 Sum.elim (fun y =>
 some false) (fun y2 =>
 some y2) o
def z18t : Sig := ⟨74, [.d c10, .d c1], [], 0, z19h⟩
def z15s (x : (List T3) × (List Int)) : Option ((Bool)) := zu9 x.1 x.2
theorem z1nn : FnOK Try.prog z18t z15s :=
 fn_ok z12p (h := (.two .no (.two (.two .no (.over (loopD zbb.xe zb8 (loopC z4k)))) .no))) Try.func74 (z0p [.den (.loop (subC (bodyC Try.f74) [1, 0, 1, 0, 0])) (loopD zbb.xe zb8 (loopC z4k))] (by kernel_rfl) ⟨z13l, trivial⟩) (by kernel_rfl) z1hz (fun x => by kernel_rfl)
def z1or : Env := ⟨[(entQ zly zjm), (entQ z17r z14e), (entQ z18t z15s)], [], []⟩
theorem zrk : EnvsOK Try.prog z1or := ⟨z0o (z0q znx) (z0o (z0q z1ew) (z0o (z0q z1nn) (z0w _))), z0s _, z0t _⟩
def zn8 : Shp := ⟨68, 0, [(4, .pt 0 r13 []), (5, .pt 1 (.one (.arr 8 .leaf)) [])], [.var 49 (.d c14), .var 25 (.d c1)]⟩
def zod : Shp := ⟨68, 0, [(6, .d .bool)], []⟩
def zbi : XS := .or (.exit 0) zn8.xe (.one .ret zod.xe)
theorem zzy : zbi.OK := XS.or_ok (z0c zn8) (XS.one_ok (z0c zod))
def zb9 : Shp := ⟨68, 0, [(0, .d c5), (4, .pt 0 r13 []), (5, .pt 1 (.one (.arr 8 .leaf)) []), (7, .d (.int .i64))], [.var 49 (.d c14), .var 25 (.d c1)]⟩
abbrev zis := (List T2) × Int × T4 × (List Int)
abbrev zqm := (T4 × (List Int)) ⊕ (Bool)
def zi3 (l : List T2) (i : Int) (o : T4) (base : List Int) : Option (zis ⊕ zqm) :=
 z0u (List.length l) (
 bif ltI i (List.length l : Nat) then
 (idxI l i).bind fun x =>
 bif eqU c0 x.2.2.2.1 o.1 then
 some (.inr (.inr true))
 else
 (idxI l i).bind fun x2 =>
 bif eqU c0 x2.2.1 o.1 then
 some (.inr (.inr true))
 else
 some (.inl (l, W64 (i + 1), o, base))
 else
 some (.inr (.inl (o, base))))
def z4c (s : zis) : Option (zis ⊕ zqm) := zi3 s.1 s.2.1 s.2.2.1 s.2.2.2
theorem z13n : SoundD Try.prog (.loop (subC (bodyC Try.f44) [1, 0, 1, 0, 0])) (loopD zb9.xe zbi (loopC z4c)) :=
 z0v (S := zb9.xe) (X := zbi) zrk (h := .no) (z0p [] (by kernel_rfl) trivial) (z0c zb9) zzy z4c (fun s => by kernel_rfl)
def zlp : Shp := ⟨68, 0, [(4, .pt 0 r13 []), (5, .pt 1 (.one (.arr 8 .leaf)) [])], [.var 49 (.d c14), .var 25 (.d c1)]⟩
def zl9 : Shp := ⟨68, 0, [(6, .d .bool)], []⟩
def z9e : XS := .or (.exit 2) zlp.xe (.one .ret zl9.xe)
theorem zwx : z9e.OK := XS.or_ok (z0c zlp) (XS.one_ok (z0c zl9))
def z9q : Shp := ⟨68, 0, [(4, .pt 0 r13 []), (5, .pt 1 (.one (.arr 8 .leaf)) []), (8, .d (.int .i64))], [.var 49 (.d c14), .var 25 (.d c1)]⟩
abbrev zg8 := Int × T4 × (List Int)
abbrev zn5 := (T4 × (List Int)) ⊕ (Bool)
def zgj (i : Int) (o : T4) (base : List Int) : Option (zg8 ⊕ zn5) :=
 z0u (List.length o.2.2.2.2.2) (
 bif ltI i (List.length o.2.2.2.2.2 : Nat) then
 (idxI o.2.2.2.2.2 i).bind fun x =>
 (zft base x.1).bind fun r =>
 bif !r then
 some (.inr (.inr true))
 else
 some (.inl (W64 (i + 1), o, base))
 else
 some (.inr (.inl (o, base))))
def z3j (s : zg8) : Option (zg8 ⊕ zn5) := zgj s.1 s.2.1 s.2.2
theorem zxu : SoundD Try.prog (.loop (subC (bodyC Try.f44) [1, 1, 0, 1, 0, 0])) (loopD z9q.xe z9e (loopC z3j)) :=
 z0v (S := z9q.xe) (X := z9e) zrk (h := .no) (z0p [] (by kernel_rfl) trivial) (z0c z9q) zwx z3j (fun s => by kernel_rfl)
def z13m : Shp := ⟨1, 0, [(0, .d .bool)], []⟩
def z1ai : XS := .one .ret z13m.xe
theorem z1i6 : z1ai.OK := XS.one_ok (z0c z13m)
def zjc (l : List T2) (o : T4) (base : List Int) : Option ((Bool)) :=
 (loopC z4c (l, 0, o, base)).bind fun o2 =>
 Sum.elim (fun y =>
 (loopC z3j (0, y.1, y.2)).bind fun o3 =>
 Sum.elim (fun y3 =>
 (zft y3.2 y3.1.1).bind fun r =>
 bif !r then
 some true
 else
 (zxf y3.1.2.2.2.2.1 y3.2).bind fun r2 =>
 bif !r2 then
 some true
 else
 (zu9 y3.1.2.2.2.2.2 y3.1.2.2.2.2.1).bind fun r3 =>
 some r3) (fun y4 =>
 some y4) o3) (fun y2 =>
 some y2) o2
def zvj : Sig := ⟨44, [.d c5, .d c14, .d c1], [], 0, z1ai⟩
def zta (x : (List T2) × T4 × (List Int)) : Option ((Bool)) := zjc x.1 x.2.1 x.2.2
theorem z15q : FnOK Try.prog zvj zta :=
 fn_ok zrk (h := (.two .no (.two (.two .no (.over (loopD zb9.xe zbi (loopC z4c)))) (.two (.two .no (.over (loopD z9q.xe z9e (loopC z3j)))) .no)))) Try.func44 (z0p [.den (.loop (subC (bodyC Try.f44) [1, 0, 1, 0, 0])) (loopD zb9.xe zbi (loopC z4c)), .den (.loop (subC (bodyC Try.f44) [1, 1, 0, 1, 0, 0])) (loopD z9q.xe z9e (loopC z3j))] (by kernel_rfl) ⟨z13n, zxu, trivial⟩) (by kernel_rfl) z1i6 (fun x => by kernel_rfl)
def z1m0 : Env := ⟨[(entQ z13j zyd)], [], []⟩
theorem zz2 : EnvsOK Try.prog z1m0 := ⟨z0o (z0q z1di) (z0w _), z0s _, z0t _⟩
def zkd : Shp := ⟨29, 0, [(5, .wn 0 c6)], [.row 45 c6]⟩
def z8k : XS := .one (.exit 0) zkd.xe
theorem zw3 : z8k.OK := XS.one_ok (z0c zkd)
def z8m : Shp := ⟨29, 0, [(0, .d c5), (3, .pt 0 (.one (.arr 8 .leaf)) []), (5, .wn 1 c6), (6, .d (.int .i64))], [.var 25 (.d c1), .row 45 c6]⟩
abbrev zfe := (List T2) × Int × (List Int) × (List T2)
abbrev zmm := ((List T2))
def zff (l : List T2) (i : Int) (base : List Int) (out : List T2) : Option (zfe ⊕ zmm) :=
 z0u (List.length l) (
 bif ltI i (List.length l : Nat) then
 (idxI l i).bind fun x =>
 (ztm x.2.2.2.2 base).bind fun r =>
 bif !r then
 (idxI l i).bind fun x2 =>
 bif Nat.beq (List.length out) (List.length out) then
 appG (List.length out) (List.length ([x2] : List T2)) 96 fun _ =>
 bif Nat.beq (List.length (out ++ ([x2] : List T2))) (List.length (out ++ ([x2] : List T2))) then
 some (.inl (l, W64 (i + 1), base, out ++ ([x2] : List T2)))
 else none
 else none
 else
 bif Nat.beq (List.length out) (List.length out) then
 some (.inl (l, W64 (i + 1), base, out))
 else none
 else
 bif Nat.beq (List.length out) (List.length out) then
 some (.inr out)
 else none)
def z3y (s : zfe) : Option (zfe ⊕ zmm) := zff s.1 s.2.1 s.2.2.1 s.2.2.2
theorem zwl : SoundD Try.prog (.loop (subC (bodyC Try.f42) [1, 1, 0, 1, 0, 0])) (loopD z8m.xe z8k (loopC z3y)) :=
 z0v (S := z8m.xe) (X := z8k) zz2 (h := .no) (z0p [] (by kernel_rfl) trivial) (z0c z8m) zw3 z3y (fun s => by kernel_rfl)
def zyt : Shp := ⟨1, 0, [(0, .wn 0 c6)], [.row 45 c6]⟩
def z15b : XS := .one .ret zyt.xe
theorem z1fr : z15b.OK := XS.one_ok (z0c zyt)
def zr7 (l : List T2) (base : List Int) : Option (((List T2))) :=
 bif Nat.beq 0 (List.length ([] : List T2)) then
 (loopC z3y (l, 0, base, ([] : List T2))).bind fun o =>
 bif Nat.beq (List.length o) (List.length o) then
 some o
 else none
 else none
def z16b : Sig := ⟨42, [.d c5, .d c1], [], 0, z15b⟩
def z11t (x : (List T2) × (List Int)) : Option (((List T2))) := zr7 x.1 x.2
theorem z1jl : FnOK Try.prog z16b z11t :=
 fn_ok zz2 (h := (.two .no (.two .no (.two (.two .no (.over (loopD z8m.xe z8k (loopC z3y)))) .no)))) Try.func42 (z0p [.den (.loop (subC (bodyC Try.f42) [1, 1, 0, 1, 0, 0])) (loopD z8m.xe z8k (loopC z3y))] (by kernel_rfl) ⟨zwl, trivial⟩) (by kernel_rfl) z1fr (fun x => by kernel_rfl)
def z1mx : Env := ⟨[(entQ z13j zyd)], [], []⟩
theorem zyz : EnvsOK Try.prog z1mx := ⟨z0o (z0q z1di) (z0w _), z0s _, z0t _⟩
def zk9 : Shp := ⟨29, 0, [(5, .wn 0 c11)], [.row 85 c11]⟩
def z8p : XS := .one (.exit 0) zk9.xe
theorem zvv : z8p.OK := XS.one_ok (z0c zk9)
def z8n : Shp := ⟨29, 0, [(0, .d c10), (3, .pt 0 (.one (.arr 8 .leaf)) []), (5, .wn 1 c11), (6, .d (.int .i64))], [.var 25 (.d c1), .row 85 c11]⟩
abbrev zfl := (List T3) × Int × (List Int) × (List T3)
abbrev zme := ((List T3))
def zfn (l : List T3) (i : Int) (base : List Int) (out : List T3) : Option (zfl ⊕ zme) :=
 z0u (List.length l) (
 bif ltI i (List.length l : Nat) then
 (idxI l i).bind fun x =>
 (ztm x.2.2 base).bind fun r =>
 bif !r then
 (idxI l i).bind fun x2 =>
 bif Nat.beq (List.length out) (List.length out) then
 appG (List.length out) (List.length ([x2] : List T3)) 64 fun _ =>
 bif Nat.beq (List.length (out ++ ([x2] : List T3))) (List.length (out ++ ([x2] : List T3))) then
 some (.inl (l, W64 (i + 1), base, out ++ ([x2] : List T3)))
 else none
 else none
 else
 bif Nat.beq (List.length out) (List.length out) then
 some (.inl (l, W64 (i + 1), base, out))
 else none
 else
 bif Nat.beq (List.length out) (List.length out) then
 some (.inr out)
 else none)
def z4b (s : zfl) : Option (zfl ⊕ zme) := zfn s.1 s.2.1 s.2.2.1 s.2.2.2
theorem zwz : SoundD Try.prog (.loop (subC (bodyC Try.f43) [1, 1, 0, 1, 0, 0])) (loopD z8n.xe z8p (loopC z4b)) :=
 z0v (S := z8n.xe) (X := z8p) zyz (h := .no) (z0p [] (by kernel_rfl) trivial) (z0c z8n) zvv z4b (fun s => by kernel_rfl)
def zyg : Shp := ⟨1, 0, [(0, .wn 0 c11)], [.row 85 c11]⟩
def z15f : XS := .one .ret zyg.xe
theorem z1fm : z15f.OK := XS.one_ok (z0c zyg)
def zr9 (l : List T3) (base : List Int) : Option (((List T3))) :=
 bif Nat.beq 0 (List.length ([] : List T3)) then
 (loopC z4b (l, 0, base, ([] : List T3))).bind fun o =>
 bif Nat.beq (List.length o) (List.length o) then
 some o
 else none
 else none
def z17c : Sig := ⟨43, [.d c10, .d c1], [], 0, z15f⟩
def z11v (x : (List T3) × (List Int)) : Option (((List T3))) := zr9 x.1 x.2
theorem z1jv : FnOK Try.prog z17c z11v :=
 fn_ok zyz (h := (.two .no (.two .no (.two (.two .no (.over (loopD z8n.xe z8p (loopC z4b)))) .no)))) Try.func43 (z0p [.den (.loop (subC (bodyC Try.f43) [1, 1, 0, 1, 0, 0])) (loopD z8n.xe z8p (loopC z4b))] (by kernel_rfl) ⟨zwz, trivial⟩) (by kernel_rfl) z1fm (fun x => by kernel_rfl)
def z1lu : Env := ⟨[(entQ zvj zta)], [(entP z16b z11t), (entP z17c z11v)], []⟩
theorem zyv : EnvsOK Try.prog z1lu := ⟨z0o (z0q z15q) (z0w _), zca (zg2 z1jl) (zca (zg2 z1jv) (z0s _)), z0t _⟩
def zj0 : Shp := ⟨48, 0, [(4, .pt 0 r15 []), (5, .pt 1 r15 [])], [.var 33 (.ag [.d c1, .wn 2 c14, .wn 3 c6, .d c16, .d (.arr 8 .bool)]), .var 33 (.d c17), .row 49 c14, .row 45 c6]⟩
def z6y : XS := .one (.exit 0) zj0.xe
theorem ztw : z6y.OK := XS.one_ok (z0c zj0)
def z7a : Shp := ⟨48, 0, [(2, .pt 0 r15 []), (3, .pt 1 (.one (.arr 8 .leaf)) []), (4, .pt 2 r15 []), (5, .pt 3 r15 []), (6, .d (.int .i64))], [.var 33 (.d c17), .var 25 (.d c1), .var 33 (.ag [.d c1, .wn 4 c14, .wn 5 c6, .d c16, .d (.arr 8 .bool)]), .var 33 (.d c17), .row 49 c14, .row 45 c6]⟩
abbrev zep := Int × T5 × (List Int) × (List Int) × (List Int) × (List Bool) × T5 × (List T4) × (List T2)
abbrev zk6 := ((List Int) × (List Int) × (List Bool) × T5 × (List T4) × (List T2))
def zec (i : Int) (t2 : T5) (base : List Int) (t4 : List Int) (t42 : List Int) (t43 : List Bool) (out : T5) (t44 : List T4) (t45 : List T2) : Option (zep ⊕ zk6) :=
 z0u (List.length t2.2.1) (
 bif ltI i (List.length t2.2.1 : Nat) then
 (idxI t2.2.1 i).bind fun x =>
 (zr9 x.2.2.2.2.2 base).bind fun r =>
 winK r 0 (List.length r) fun w =>
 (zjc out.2.2.1 (x.1, x.2.1, x.2.2.1, x.2.2.2.1, x.2.2.2.2.1, w) base).bind fun r2 =>
 bif r2 then
 appG (List.length ([] : List T4)) (List.length out.2.1) 112 fun _ =>
 bif Nat.beq (List.length out.2.1) (List.length out.2.1) then
 appG (List.length out.2.1) (List.length ([(x.1, x.2.1, x.2.2.1, x.2.2.2.1, x.2.2.2.2.1, w)] : List T4)) 112 fun _ =>
 winK (out.2.1 ++ ([(x.1, x.2.1, x.2.2.1, x.2.2.2.1, x.2.2.2.2.1, w)] : List T4)) 0 (List.length (out.2.1 ++ ([(x.1, x.2.1, x.2.2.1, x.2.2.2.1, x.2.2.2.2.1, w)] : List T4))) fun w2 =>
 bif Nat.beq (List.length t44) (List.length t44) then
 bif Nat.beq (List.length t45) (List.length t45) then
 some (.inl (W64 (i + 1), t2, base, t4, t42, t43, (out.1, w2, out.2.2), t44, t45))
 else none
 else none
 else none
 else
 bif Nat.beq (List.length t44) (List.length t44) then
 bif Nat.beq (List.length t45) (List.length t45) then
 some (.inl (W64 (i + 1), t2, base, t4, t42, t43, out, t44, t45))
 else none
 else none
 else
 bif Nat.beq (List.length t44) (List.length t44) then
 bif Nat.beq (List.length t45) (List.length t45) then
 some (.inr (t4, t42, t43, out, t44, t45))
 else none
 else none)
def z3e (s : zep) : Option (zep ⊕ zk6) := zec s.1 s.2.1 s.2.2.1 s.2.2.2.1 s.2.2.2.2.1 s.2.2.2.2.2.1 s.2.2.2.2.2.2.1 s.2.2.2.2.2.2.2.1 s.2.2.2.2.2.2.2.2
theorem zuo : SoundD Try.prog (.loop (subC (bodyC Try.f14) [1, 1, 1, 0, 1, 0, 0])) (loopD z7a.xe z6y (loopC z3e)) :=
 z0v (S := z7a.xe) (X := z6y) zyv (h := (.two .no (.two (.two .no (.two (.reg [5] []) (.two .no (.two (.two (.reg [3] []) (.reg [5] [])) .no)))) .no))) (z0p [] (by kernel_rfl) trivial) (z0c z7a) ztw z3e (fun s => by kernel_rfl)
def zyy : Shp := ⟨1, 0, [(0, .d c17)], []⟩
def z15i : XS := .one .ret zyy.xe
theorem z1fi : z15i.OK := XS.one_ok (z0c zyy)
def zlu (t0 : T5) (base : List Int) : Option ((T5)) :=
 (zr7 t0.2.2.1 base).bind fun r =>
 winK r 0 (List.length r) fun w =>
 bif Nat.beq 0 (List.length ([] : List T4)) then
 bif Nat.beq 0 (List.length ([] : List T2)) then
 (loopC z3e (0, t0, base, List.replicate 8 (0 : Int), List.replicate 8 (0 : Int), List.replicate 8 false, ((t0.1, t0.2.1, w, t0.2.2.2).1, [], (t0.1, t0.2.1, w, t0.2.2.2).2.2), ([] : List T4), ([] : List T2))).bind fun o =>
 some o.2.2.2.1
 else none
 else none
def z16p : Sig := ⟨14, [.d c17, .d c1], [], 0, z15i⟩
def z13u (x : T5 × (List Int)) : Option ((T5)) := zlu x.1 x.2
theorem z1jn : FnOK Try.prog z16p z13u :=
 fn_ok zyv (h := (.two .no (.two .no (.two (.reg [5] []) (.two (.two .no (.over (loopD z7a.xe z6y (loopC z3e)))) .no))))) Try.func14 (z0p [.den (.loop (subC (bodyC Try.f14) [1, 1, 1, 0, 1, 0, 0])) (loopD z7a.xe z6y (loopC z3e))] (by kernel_rfl) ⟨zuo, trivial⟩) (by kernel_rfl) z1fi (fun x => by kernel_rfl)
def z1rt : Env := ⟨[(entQ zy2 zw6), (entQ z1do z19f), (entQ zvj zta)], [], []⟩
theorem zvf : EnvsOK Try.prog z1rt := ⟨z0o (z0q z1af) (z0o (z0q z1ny) (z0o (z0q z15q) (z0w _))), z0s _, z0t _⟩
def zny : Shp := ⟨55, 0, [(1, .pt 0 r15 []), (3, .d (.int .i64))], [.var 33 (.d c17)]⟩
def zb3 : XS := .one (.exit 0) zny.xe
theorem zzr : zb3.OK := XS.one_ok (z0c zny)
def zbv : Shp := ⟨55, 0, [(1, .pt 0 r15 []), (3, .d (.int .i64)), (4, .d (.int .i64))], [.var 33 (.d c17)]⟩
abbrev zij := Int × Int × T5
abbrev zqz := (Int × T5)
def ziw (n : Int) (i : Int) (t1 : T5) : Option (zij ⊕ zqz) :=
 z0u (List.length t1.2.2.1) (
 bif ltI i (List.length t1.2.2.1 : Nat) then
 (idxI t1.2.2.1 i).bind fun x =>
 (zpz x).bind fun r =>
 bif !r then
 some (.inl (W64 (n + 1), W64 (i + 1), t1))
 else
 some (.inl (n, W64 (i + 1), t1))
 else
 some (.inr (n, t1)))
def z4g (s : zij) : Option (zij ⊕ zqz) := ziw s.1 s.2.1 s.2.2
theorem z13v : SoundD Try.prog (.loop (subC (bodyC Try.f16) [1, 1, 0, 1, 0, 0])) (loopD zbv.xe zb3 (loopC z4g)) :=
 z0v (S := zbv.xe) (X := zb3) zvf (h := .no) (z0p [] (by kernel_rfl) trivial) (z0c zbv) zzr z4g (fun s => by kernel_rfl)
def zld : Shp := ⟨55, 0, [(3, .d (.int .i64))], []⟩
def z9x : XS := .one (.exit 2) zld.xe
theorem zx0 : z9x.OK := XS.one_ok (z0c zld)
def z9t : Shp := ⟨55, 0, [(1, .pt 0 r15 []), (3, .d (.int .i64)), (5, .d (.int .i64))], [.var 33 (.d c17)]⟩
abbrev zgf := Int × Int × T5
abbrev zn4 := (Int)
def zgg (n : Int) (i : Int) (t1 : T5) : Option (zgf ⊕ zn4) :=
 z0u (List.length t1.2.1) (
 bif ltI i (List.length t1.2.1 : Nat) then
 (idxI t1.2.1 i).bind fun x =>
 z0u (List.length x.2.2.2.2.2) (
 (zwd x.2.2.2.2.2).bind fun r =>
 z0u (List.length r) (
 (zjc t1.2.2.1 x t1.1).bind fun r2 =>
 bif !r2 then
 some (.inl ((W64 ((W64 (n + (W64 ((List.length x.2.2.2.2.2 : Nat) - (List.length r : Nat))))) + 1), W64 (i + 1), t1)))
 else
 some (.inl ((W64 (n + (W64 ((List.length x.2.2.2.2.2 : Nat) - (List.length r : Nat)))), W64 (i + 1), t1)))))
 else
 some (.inr n))
def z4r (s : zgf) : Option (zgf ⊕ zn4) := zgg s.1 s.2.1 s.2.2
theorem zy9 : SoundD Try.prog (.loop (subC (bodyC Try.f16) [1, 1, 1, 0, 1, 0, 0])) (loopD z9t.xe z9x (loopC z4r)) :=
 z0v (S := z9t.xe) (X := z9x) zvf (h := .no) (z0p [] (by kernel_rfl) trivial) (z0c z9t) zx0 z4r (fun s => by kernel_rfl)
def z1ag : Shp := ⟨1, 0, [(0, .d (.int .i64))], []⟩
def z1fb : XS := .one .ret z1ag.xe
theorem z1my : z1fb.OK := XS.one_ok (z0c z1ag)
def zt2 (t0 : T5) : Option ((Int)) :=
 (loopC z4g (0, 0, t0)).bind fun o =>
 (loopC z4r (o.1, 0, o.2)).bind fun o2 =>
 some o2
def z1h3 : Sig := ⟨16, [.d c17], [], 0, z1fb⟩
def z1d2 (x : T5) : Option ((Int)) := zt2 x
theorem z1qk : FnOK Try.prog z1h3 z1d2 :=
 fn_ok zvf (h := (.two .no (.two .no (.two (.two .no (.over (loopD zbv.xe zb3 (loopC z4g)))) (.two (.two .no (.over (loopD z9t.xe z9x (loopC z4r)))) .no))))) Try.func16 (z0p [.den (.loop (subC (bodyC Try.f16) [1, 1, 0, 1, 0, 0])) (loopD zbv.xe zb3 (loopC z4g)), .den (.loop (subC (bodyC Try.f16) [1, 1, 1, 0, 1, 0, 0])) (loopD z9t.xe z9x (loopC z4r))] (by kernel_rfl) ⟨z13v, zy9, trivial⟩) (by kernel_rfl) z1my (fun x => by kernel_rfl)
def z19o : Env := ⟨[(entQ z1db z1ar), (entQ z1f6 z1ci), (entQ z1fc z1cz), (entQ zxr zvh), (entQ zu1 zrg), (entQ z16p z13u), (entQ z1ft z1cq), (entQ z13o zxq), (entQ z1h3 z1d2)], [], []⟩
theorem z14l : EnvsOK Try.prog z19o := ⟨z0o (z0q z1o0) (z0o (z0q z1r9) (z0o (z0q z1qy) (z0o (z0q z1ad) (z0o (z0q z13s) (z0o (z0q z1jn) (z0o (z0q z1qw) (z0o (z0q z1cu) (z0o (z0q z1qk) (z0w _))))))))), z0s _, z0t _⟩
def zp6 : Shp := ⟨1, 0, [(0, .d .bool)], []⟩
def zsi : XS := .one .ret zp6.xe
theorem z13g : zsi.OK := XS.one_ok (z0c zp6)
def zm8 (l : List T1) (base : List Int) (t2 : List Int) : Option ((Bool)) :=
 (ze2).bind fun r =>
 bif !r then
 (ze2).bind fun r2 =>
 some r2
 else
 (zu2 l).bind fun r3 =>
 bif !r3 then
 (ze2).bind fun r4 =>
 some r4
 else
 (zto l).bind fun r5 =>
 (zfu r5).bind fun r6 =>
 (zf3 r6 base).bind fun r7 =>
 (zf3 r7 t2).bind fun r8 =>
 (zlu r6 base).bind fun r9 =>
 (zsy r7 r9).bind fun r10 =>
 bif r10 then
 (zlu r7 t2).bind fun r11 =>
 (zsy r8 r11).bind fun r12 =>
 bif r12 then
 (zoi r6).bind fun r13 =>
 (zt2 r6).bind fun r14 =>
 bif eqI r13 r14 then
 (zoi r7).bind fun r15 =>
 (zt2 r7).bind fun r16 =>
 some (eqI r15 r16)
 else
 some false
 else
 some false
 else
 some false
def z19y : Sig := ⟨3, [.d c3, .d c1, .d c1], [], 0, zsi⟩
def zr0 (x : (List T1) × (List Int) × (List Int)) : Option ((Bool)) := zm8 x.1 x.2.1 x.2.2
theorem z17o : FnOK Try.prog z19y zr0 :=
 fn_ok z14l (h := .no) Try.func3 (z0p [] (by kernel_rfl) trivial) (by kernel_rfl) z13g (fun x => by kernel_rfl)
end Go.Proofs.Ytfbdjicfkcklfaa
set_option maxRecDepth 100000
set_option linter.unusedSimpArgs false
set_option linter.unusedVariables false
namespace Go.Proofs.Ytfbdjicfkcklfaa
open Go.Tm Go.Ab
theorem z0z {A : Type} {a b : T0} {x y : Option A} {Q : A → Prop} (h : a = b → Ok x Q) (g : ¬ a = b → Ok y Q) : Ok (bif eqU c0 a b then x else y) Q := z1tm (u := c0) rfl h g
def VecOk (v : List Int) : Prop := v.length = 8
def joinV (a b : List Int) : List Int := List.zipWith (fun x y => if x < y then y else x) a b
theorem z1c7 {a b : List Int} (ha : VecOk a) (hb : VecOk b) : VecOk (joinV a b) := by unfold VecOk joinV at *; simp [ha, hb]
def fillV (v : List Int) (i : Nat) : List Int := v.take i ++ List.replicate (8 - i) 0
theorem z1pc {v : List Int} (h : v.length = 8) {i : Nat} (hi : i ≤ 8) : (fillV v i).length = 8 := by unfold fillV; simp; omega
theorem z1fh {v : List Int} (h : v.length = 8) {i : Nat} (hi : i < 8) {x : Int} (hx : x = v[i]) : (fillV v i).set i x = fillV v (i + 1) := by
 unfold fillV
 rw [List.set_append_right _ _ (by simp; omega), hx, List.take_succ_eq_append_getElem (by omega), List.append_assoc]
 have : i - (List.take i v).length = 0 := by simp; omega
 rw [this, show 8 - i = (8 - (i + 1)) + 1 by omega, List.replicate_succ]; rfl
theorem z1vs {v : List Int} (h : v.length = 8) {i : Nat} (hi : i < 8) (hx : v[i] = 0) : fillV v i = fillV v (i + 1) := by
 unfold fillV
 rw [List.take_succ_eq_append_getElem (by omega), hx, show 8 - i = (8 - (i + 1)) + 1 by omega, List.replicate_succ]; simp
theorem z1pa {v : List Int} (h : v.length = 8) : fillV v 8 = v := by unfold fillV; rw [List.take_of_length_le (by omega)]; simp
theorem z1hh {a b : List Int} (ha : VecOk a) (hb : VecOk b) : zkn a b = some (joinV a b) := by
 refine ok_is ?_
 have hj := z1c7 ha hb
 unfold VecOk at ha hb hj
 unfold zkn
 refine z0a (z1k 8 (fun i _ => ((i : Int), a, b, List.replicate 8 (0 : Int), fillV (joinV a b) i)) (fun _ (_ : Unit) => True) () rfl trivial (fun _ _ => ?_) fun i _ hi _ => ?_)
 · unfold z5t zin
   dsimp only
   repeat' first
     | (dsimp only [Int.toNat_natCast, List.length_nil])
     | with_reducible first | refine z0g ?_ | refine z0f ?_ | refine z0d ?_ | refine z0e ?_ | refine z0b ?_ | refine z0i ?_ | refine qs ?_ | refine qb ?_ | refine z0j ?_ | refine qw ?_ | refine z0m ?_ | refine z0k ?_ | refine qi ?_ | refine qg (h := ?_) | refine qx (h := ?_) | refine qy (h := ?_) | refine qa ?_ | refine qc ?_ | refine ql ?_ | refine qp ?_ | refine z0a ?_ | rfl
     | (with_reducible first | refine ok_lt ?_ ?_ | refine ok_le ?_ ?_ | refine z0h ?_ ?_ | refine z0l ?_ ?_ | refine z0n ?_ ?_ | refine qu ?_ ?_ | refine ok_if ?_ ?_) <;> intro _ <;> try (exfalso; omega)
   exact z1pa hj
 · unfold z5t zin
   dsimp only
   have hl := z1pc hj (i := i) (by omega)
   have hji : (joinV a b)[i] = if a[i] < b[i] then b[i] else a[i] := by simp [joinV]
   repeat' first
     | (dsimp only [Int.toNat_natCast, List.length_nil])
     | with_reducible first | refine z0g ?_ | refine z0f ?_ | refine z0d ?_ | refine z0e ?_ | refine z0b ?_ | refine z0i ?_ | refine qs ?_ | refine qb ?_ | refine z0j ?_ | refine qw ?_ | refine z0m ?_ | refine z0k ?_ | refine qi ?_ | refine qg (h := ?_) | refine qx (h := ?_) | refine qy (h := ?_) | refine qa ?_ | refine qc ?_ | refine ql ?_ | refine qp ?_ | refine z0a ?_ | rfl
     | (with_reducible first | refine ok_lt ?_ ?_ | refine ok_le ?_ ?_ | refine z0h ?_ ?_ | refine z0l ?_ ?_ | refine z0n ?_ ?_ | refine qu ?_ ?_ | refine ok_if ?_ ?_) <;> intro _ <;> try (exfalso; omega)
   · rename_i h1 h2
     refine ⟨(), ?_, trivial⟩
     rw [z0r (by omega)]
     try simp only [Int.toNat_natCast] at h2 ⊢
     rw [List.set_set, z1fh hj hi (hji.trans (if_pos h2)).symm]; rfl
   · rename_i h1 h2
     refine ⟨(), ?_, trivial⟩
     rw [z0r (by omega)]
     try simp only [Int.toNat_natCast] at h2 ⊢
     rw [z1fh hj hi (hji.trans (if_neg h2)).symm]; rfl
def oneV (id : T0) : List Int := (List.range 8).map fun i : Nat => if (i : Int) + 1 = id.1 then id.2 else 0
theorem zfy (id : T0) : VecOk (oneV id) := by unfold VecOk oneV; simp
theorem z24o (id : T0) : z15w id = some (oneV id) := by
 refine ok_is ?_
 have hj := zfy id
 unfold VecOk at hj
 unfold z15w
 refine z0a (z1k 8 (fun i _ => ((i : Int), id, List.replicate 8 (0 : Int), fillV (oneV id) i)) (fun _ (_ : Unit) => True) () rfl trivial (fun _ _ => ?_) fun i _ hi _ => ?_)
 · unfold z6g zjx
   dsimp only
   repeat' first
     | (dsimp only [Int.toNat_natCast, List.length_nil])
     | with_reducible first | refine z0g ?_ | refine z0f ?_ | refine z0d ?_ | refine z0e ?_ | refine z0b ?_ | refine z0i ?_ | refine qs ?_ | refine qb ?_ | refine z0j ?_ | refine qw ?_ | refine z0m ?_ | refine z0k ?_ | refine qi ?_ | refine qg (h := ?_) | refine qx (h := ?_) | refine qy (h := ?_) | refine qa ?_ | refine qc ?_ | refine ql ?_ | refine qp ?_ | refine z0a ?_ | rfl
     | (with_reducible first | refine ok_lt ?_ ?_ | refine ok_le ?_ ?_ | refine z0h ?_ ?_ | refine z0l ?_ ?_ | refine z0n ?_ ?_ | refine qu ?_ ?_ | refine ok_if ?_ ?_) <;> intro _ <;> try (exfalso; omega)
   exact z1pa hj
 · unfold z6g zjx
   dsimp only
   have hl := z1pc hj (i := i) (by omega)
   have hji : (oneV id)[i] = if (i : Int) + 1 = id.1 then id.2 else 0 := by simp [oneV]
   repeat' first
     | (dsimp only [Int.toNat_natCast, List.length_nil])
     | with_reducible first | refine z0g ?_ | refine z0f ?_ | refine z0d ?_ | refine z0e ?_ | refine z0b ?_ | refine z0i ?_ | refine qs ?_ | refine qb ?_ | refine z0j ?_ | refine qw ?_ | refine z0m ?_ | refine z0k ?_ | refine qi ?_ | refine qg (h := ?_) | refine qx (h := ?_) | refine qy (h := ?_) | refine qa ?_ | refine qc ?_ | refine ql ?_ | refine qp ?_ | refine z0a ?_ | rfl
     | (with_reducible first | refine ok_lt ?_ ?_ | refine ok_le ?_ ?_ | refine z0h ?_ ?_ | refine z0l ?_ ?_ | refine z0n ?_ ?_ | refine qu ?_ ?_ | refine ok_if ?_ ?_) <;> intro _ <;> try (exfalso; omega)
   · rename_i h1 h2
     refine ⟨(), ?_, trivial⟩
     rw [z0r (by omega)] at h2 ⊢
     try simp only [Int.toNat_natCast]
     rw [z1fh hj hi (hji.trans (if_pos h2)).symm]; rfl
   · rename_i h1 h2
     refine ⟨(), ?_, trivial⟩
     rw [z0r (by omega)] at h2 ⊢
     rw [z1vs hj hi (hji.trans (if_neg h2))]; rfl
def withV (v : List Int) (id : T0) : List Int := joinV v (oneV id)
theorem zl5 {v : List Int} (h : VecOk v) (id : T0) : VecOk (withV v id) := z1c7 h (zfy id)
theorem zlx {v : List Int} (h : VecOk v) (id : T0) : za3 v id = some (withV v id) := by
 unfold za3; rw [z24o]; simp only [Option.bind_some]; rw [z1hh h (zfy id)]; rfl
def getV (v : List Int) (rep : Int) : Int := if 1 ≤ rep ∧ rep ≤ 8 then (v[(rep - 1).toNat]?).getD 0 else 0
theorem z1mn {v : List Int} (h : VecOk v) (rep : Int) : zoc v rep = some (getV v rep) := by
 refine ok_is ?_
 unfold VecOk at h
 unfold zoc
 refine z0a (z1k 8 (fun i _ => (rep, (i : Int), v)) (fun i (_ : Unit) => ¬ (1 ≤ rep ∧ rep ≤ i)) () rfl (by omega) (fun _ hn => ?_) fun i _ hi hn => ?_)
 · unfold z8b zm1
   dsimp only
   repeat' first
     | (dsimp only [Int.toNat_natCast, List.length_nil])
     | with_reducible first | refine z0g ?_ | refine z0f ?_ | refine z0d ?_ | refine z0e ?_ | refine z0b ?_ | refine z0i ?_ | refine qs ?_ | refine qb ?_ | refine z0j ?_ | refine qw ?_ | refine z0m ?_ | refine z0k ?_ | refine qi ?_ | refine qg (h := ?_) | refine qx (h := ?_) | refine qy (h := ?_) | refine qa ?_ | refine qc ?_ | refine ql ?_ | refine qp ?_ | refine z0a ?_ | rfl
     | (with_reducible first | refine ok_lt ?_ ?_ | refine ok_le ?_ ?_ | refine z0h ?_ ?_ | refine z0l ?_ ?_ | refine z0n ?_ ?_ | refine qu ?_ ?_ | refine ok_if ?_ ?_) <;> intro _ <;> try (exfalso; omega)
   unfold getV; rw [if_neg (by omega)]
 · unfold z8b zm1
   dsimp only
   repeat' first
     | (dsimp only [Int.toNat_natCast, List.length_nil])
     | with_reducible first | refine z0g ?_ | refine z0f ?_ | refine z0d ?_ | refine z0e ?_ | refine z0b ?_ | refine z0i ?_ | refine qs ?_ | refine qb ?_ | refine z0j ?_ | refine qw ?_ | refine z0m ?_ | refine z0k ?_ | refine qi ?_ | refine qg (h := ?_) | refine qx (h := ?_) | refine qy (h := ?_) | refine qa ?_ | refine qc ?_ | refine ql ?_ | refine qp ?_ | refine z0a ?_ | rfl
     | (with_reducible first | refine ok_lt ?_ ?_ | refine ok_le ?_ ?_ | refine z0h ?_ ?_ | refine z0l ?_ ?_ | refine z0n ?_ ?_ | refine qu ?_ ?_ | refine ok_if ?_ ?_) <;> intro _ <;> try (exfalso; omega)
   · rename_i h1 h2
     rw [z0r (by omega)] at h2
     unfold getV
     rw [if_pos (by omega), show (rep - 1).toNat = i by omega, getE (by omega)]; rfl
   · rename_i h1 h2
     rw [z0r (by omega)] at h2
     refine ⟨(), ?_, by omega⟩
     rw [z0r (by omega)]; rfl
def hasV (v : List Int) (id : T0) : Bool := ltI 0 id.2 && leI id.2 (getV v id.1)
theorem z21u {v : List Int} (h : VecOk v) (rep : Int) : z1hd v rep = some (getV v rep) := by
 refine ok_is ?_
 unfold VecOk at h
 unfold z1hd
 by_cases h1 : 1 ≤ rep ∧ rep ≤ 8
 · rw [z0r (by omega)]
   repeat' first
     | (dsimp only [Int.toNat_natCast, List.length_nil])
     | with_reducible first | refine z0g ?_ | refine z0f ?_ | refine z0d ?_ | refine z0e ?_ | refine z0b ?_ | refine z0i ?_ | refine qs ?_ | refine qb ?_ | refine z0j ?_ | refine qw ?_ | refine z0m ?_ | refine z0k ?_ | refine qi ?_ | refine qg (h := ?_) | refine qx (h := ?_) | refine qy (h := ?_) | refine qa ?_ | refine qc ?_ | refine ql ?_ | refine qp ?_ | refine z0a ?_ | rfl
     | (with_reducible first | refine ok_lt ?_ ?_ | refine ok_le ?_ ?_ | refine z0h ?_ ?_ | refine z0l ?_ ?_ | refine z0n ?_ ?_ | refine qu ?_ ?_ | refine ok_if ?_ ?_) <;> intro _ <;> try (exfalso; omega)
   unfold getV
   rw [if_pos h1, getE (by omega)]; rfl
 · rw [show getV v rep = 0 by unfold getV; rw [if_neg h1]]
   repeat' first
     | (dsimp only [Int.toNat_natCast, List.length_nil])
     | with_reducible first | refine z0g ?_ | refine z0f ?_ | refine z0d ?_ | refine z0e ?_ | refine z0b ?_ | refine z0i ?_ | refine qs ?_ | refine qb ?_ | refine z0j ?_ | refine qw ?_ | refine z0m ?_ | refine z0k ?_ | refine qi ?_ | refine qg (h := ?_) | refine qx (h := ?_) | refine qy (h := ?_) | refine qa ?_ | refine qc ?_ | refine ql ?_ | refine qp ?_ | refine z0a ?_ | rfl
     | (with_reducible first | refine ok_lt ?_ ?_ | refine ok_le ?_ ?_ | refine z0h ?_ ?_ | refine z0l ?_ ?_ | refine z0n ?_ ?_ | refine qu ?_ ?_ | refine ok_if ?_ ?_) <;> intro _ <;> try (exfalso; omega)
theorem z1o7 {v : List Int} (h : VecOk v) (id : T0) : z10v v id = some (hasV v id) := by
 refine ok_is ?_
 unfold z10v hasV
 rw [z21u h]
 repeat' first
   | (dsimp only [Int.toNat_natCast, List.length_nil])
   | with_reducible first | refine z0g ?_ | refine z0f ?_ | refine z0d ?_ | refine z0e ?_ | refine z0b ?_ | refine z0i ?_ | refine qs ?_ | refine qb ?_ | refine z0j ?_ | refine qw ?_ | refine z0m ?_ | refine z0k ?_ | refine qi ?_ | refine qg (h := ?_) | refine qx (h := ?_) | refine qy (h := ?_) | refine qa ?_ | refine qc ?_ | refine ql ?_ | refine qp ?_ | refine z0a ?_ | rfl
   | (with_reducible first | refine ok_lt ?_ ?_ | refine ok_le ?_ ?_ | refine z0h ?_ ?_ | refine z0l ?_ ?_ | refine z0n ?_ ?_ | refine qu ?_ ?_ | refine ok_if ?_ ?_) <;> intro _ <;> try (exfalso; omega)
 · rw [ltI_t (by omega)]; rfl
 · rw [ltI_f (by omega)]; rfl
theorem zvn (a b : T0) : zbp a b = some (ltI a.2 b.2 || (eqI a.2 b.2 && ltI a.1 b.1)) := by
 refine ok_is ?_
 unfold zbp
 repeat' first
   | (dsimp only [Int.toNat_natCast, List.length_nil])
   | with_reducible first | refine z0g ?_ | refine z0f ?_ | refine z0d ?_ | refine z0e ?_ | refine z0b ?_ | refine z0i ?_ | refine qs ?_ | refine qb ?_ | refine z0j ?_ | refine qw ?_ | refine z0m ?_ | refine z0k ?_ | refine qi ?_ | refine qg (h := ?_) | refine qx (h := ?_) | refine qy (h := ?_) | refine qa ?_ | refine qc ?_ | refine ql ?_ | refine qp ?_ | refine z0a ?_ | rfl
   | (with_reducible first | refine ok_lt ?_ ?_ | refine ok_le ?_ ?_ | refine z0h ?_ ?_ | refine z0l ?_ ?_ | refine z0n ?_ ?_ | refine qu ?_ ?_ | refine ok_if ?_ ?_) <;> intro _ <;> try (exfalso; omega)
 · rw [ltI_t (by assumption)]; rfl
 · rename_i h1 h2
   rw [ltI_f h1, eqI_t h2]; rfl
 · rw [ltI_f (by assumption), eqI_f (by assumption)]; rfl
def leqV (a b : List Int) : Bool := (List.zip a b).all fun x => leI x.1 x.2
end Go.Proofs.Ytfbdjicfkcklfaa
set_option maxRecDepth 100000
set_option linter.unusedSimpArgs false
set_option linter.unusedVariables false
namespace Go.Proofs.Ytfbdjicfkcklfaa
open Go.Tm Go.Ab
def leV (a b : List Int) : Prop := ∀ i, i < 8 → (a[i]?).getD 0 ≤ (b[i]?).getD 0
theorem z20m (a : List Int) : leV a a := fun _ _ => Int.le_refl _
theorem z1h2 {a b c : List Int} (h : leV a b) (g : leV b c) : leV a c := fun i hi => Int.le_trans (h i hi) (g i hi)
theorem z1l3 {a b : List Int} (ha : VecOk a) (hb : VecOk b) (i : Nat) (hi : i < 8) : ((joinV a b)[i]?).getD 0 = if (a[i]?).getD 0 < (b[i]?).getD 0 then (b[i]?).getD 0 else (a[i]?).getD 0 := by
 unfold VecOk at ha hb
 have hj : (joinV a b).length = 8 := z1c7 ha hb
 rw [getE (by omega), getE (by omega), getE (by omega)]
 simp [joinV]
theorem z1bn {a b : List Int} (ha : VecOk a) (hb : VecOk b) : leV a (joinV a b) := fun i hi => by
 rw [z1l3 ha hb i hi]; split <;> omega
theorem z1uz {a b : List Int} (ha : VecOk a) (hb : VecOk b) : leV b (joinV a b) := fun i hi => by
 rw [z1l3 ha hb i hi]; split <;> omega
theorem z1tb {a b c : List Int} (ha : VecOk a) (hb : VecOk b) (h : leV a c) (g : leV b c) : leV (joinV a b) c := fun i hi => by
 rw [z1l3 ha hb i hi]; have := h i hi; have := g i hi; split <;> omega
def zeroV : List Int := List.replicate 8 0
theorem zvm : VecOk zeroV := List.length_replicate ..
theorem z1sl (i : Nat) : (zeroV[i]?).getD 0 = 0 := by unfold zeroV; rw [List.getElem?_replicate]; split <;> rfl
theorem z1v8 (id : T0) (i : Nat) (hi : i < 8) : ((oneV id)[i]?).getD 0 = if (i : Int) + 1 = id.1 then id.2 else 0 := by
 have hj : (oneV id).length = 8 := zfy id
 rw [getE (by omega)]; simp [oneV]
def zu7 (v : List Int) (id : T0) : Prop := id.2 ≤ getV v id.1
def natV (v : List Int) : Prop := ∀ i, i < 8 → 0 ≤ (v[i]?).getD 0
theorem z16l : natV zeroV := fun i _ => by rw [z1sl]; omega
theorem zrr {a b : List Int} (ha : VecOk a) (hb : VecOk b) (h : natV a) : natV (joinV a b) := fun i hi => Int.le_trans (h i hi) (z1bn ha hb i hi)
theorem z21z {v : List Int} {id : T0} (h : natV v) (g : zu7 v id) : leV (oneV id) v := fun i hi => by
 rw [z1v8 id i hi]
 split
 · rename_i e
   unfold zu7 getV at g
   rw [if_pos (by omega), show (id.1 - 1).toNat = i by omega] at g
   exact g
 · exact h i hi
theorem z1k3 {v w : List Int} {id : T0} (hv : VecOk v) (h : leV v w) (hw : natV w) (g : zu7 w id) : leV (withV v id) w := z1tb hv (zfy id) h (z21z hw g)
theorem z1xd {v w : List Int} (h : leV v w) (r : Int) : getV v r ≤ getV w r := by
 unfold getV
 split
 · exact h _ (by omega)
 · exact Int.le_refl _
theorem z1j1 {v w : List Int} {id : T0} (h : leV v w) (g : zu7 v id) : zu7 w id := Int.le_trans g (z1xd h _)
theorem z1im {v : List Int} (hv : VecOk v) {id : T0} (hr : 1 ≤ id.1 ∧ id.1 ≤ 8) : zu7 (withV v id) id := by
 have h := z1uz hv (zfy id) (id.1 - 1).toNat (by omega)
 rw [z1v8 id _ (by omega), if_pos (by omega)] at h
 unfold zu7 getV
 rw [if_pos hr]; exact h
abbrev zhe (e : T1) : Int := e.2.2.1
abbrev zju (e : T1) : List T0 := e.2.2.2.2.2.2.2.1
abbrev z1ga (e : T1) : List T0 := e.2.2.2.2.2.2.1
abbrev z1tk (e : T1) : List Int := e.2.2.2.2.2.2.2.2.2.1
abbrev evOff (e : T1) : Int := e.2.2.2.2.2.2.2.2.1
structure EvIn (e : T1) : Prop where
 dep : VecOk e.2.1
 nat : natV e.2.1
 name : e.2.2.2.2.2.1.length ≤ 30
 gone : (z1ga e).length ≤ 10
 base : (zju e).length ≤ 10
 data : (z1tk e).length ≤ 250
 off : -9223372036854775808 ≤ evOff e ∧ evOff e ≤ 9223372036854775807
def Chain (l : List T1) : Prop := ∀ i (h : i < l.length), ∀ b, (zju l[i])[0]? = some b → ∃ j, ∃ h : j < l.length, j < i ∧ l[j].1 = b
theorem in_is (l : List T0) (x : T0) (hl : l.length ≤ 1000) : ∃ b, ziz l x = some b := by
 have : Ok (ziz l x) (fun _ => True) := by
   unfold ziz
   refine z0a (z1k l.length (fun i _ => (l, (i : Int), x)) (fun _ (_ : Unit) => True) () rfl trivial (fun _ _ => ?_) fun i _ hi _ => ?_)
   · unfold z7c zhb
     dsimp only
     repeat' first
       | (dsimp only [Int.toNat_natCast, List.length_nil])
       | ((with_reducible refine z0z ?_ ?_) <;> intro _ <;> try (exfalso; omega))
       | with_reducible first | refine z0g ?_ | refine z0f ?_ | refine z0d ?_ | refine z0e ?_ | refine z0b ?_ | refine z0i ?_ | refine qs ?_ | refine qb ?_ | refine z0j ?_ | refine qw ?_ | refine z0m ?_ | refine z0k ?_ | refine qi ?_ | refine qg (h := ?_) | refine qx (h := ?_) | refine qy (h := ?_) | refine qa ?_ | refine qc ?_ | refine ql ?_ | refine qp ?_ | refine z0a ?_ | rfl
       | (with_reducible first | refine ok_lt ?_ ?_ | refine ok_le ?_ ?_ | refine z0h ?_ ?_ | refine z0l ?_ ?_ | refine z0n ?_ ?_ | refine qu ?_ ?_ | refine ok_if ?_ ?_) <;> intro _ <;> try (exfalso; omega)
   · unfold z7c zhb
     dsimp only
     repeat' first
       | (dsimp only [Int.toNat_natCast, List.length_nil])
       | ((with_reducible refine z0z ?_ ?_) <;> intro _ <;> try (exfalso; omega))
       | with_reducible first | refine z0g ?_ | refine z0f ?_ | refine z0d ?_ | refine z0e ?_ | refine z0b ?_ | refine z0i ?_ | refine qs ?_ | refine qb ?_ | refine z0j ?_ | refine qw ?_ | refine z0m ?_ | refine z0k ?_ | refine qi ?_ | refine qg (h := ?_) | refine qx (h := ?_) | refine qy (h := ?_) | refine qa ?_ | refine qc ?_ | refine ql ?_ | refine qp ?_ | refine z0a ?_ | rfl
       | (with_reducible first | refine ok_lt ?_ ?_ | refine ok_le ?_ ?_ | refine z0h ?_ ?_ | refine z0l ?_ ?_ | refine z0n ?_ ?_ | refine qu ?_ ?_ | refine ok_if ?_ ?_) <;> intro _ <;> try (exfalso; omega)
     exact ⟨(), by rw [z0r (by omega)]; rfl, trivial⟩
 obtain ⟨b, h, _⟩ := this
 exact ⟨b, h⟩
theorem z14w (e : T1) : zg9 e = some (eqI (zhe e) 3 || (eqI (zhe e) 4 || eqI (zhe e) 5)) := by
 refine ok_is ?_
 unfold zg9
 repeat' first
   | (dsimp only [Int.toNat_natCast, List.length_nil])
   | ((with_reducible refine z0z ?_ ?_) <;> intro _ <;> try (exfalso; omega))
   | with_reducible first | refine z0g ?_ | refine z0f ?_ | refine z0d ?_ | refine z0e ?_ | refine z0b ?_ | refine z0i ?_ | refine qs ?_ | refine qb ?_ | refine z0j ?_ | refine qw ?_ | refine z0m ?_ | refine z0k ?_ | refine qi ?_ | refine qg (h := ?_) | refine qx (h := ?_) | refine qy (h := ?_) | refine qa ?_ | refine qc ?_ | refine ql ?_ | refine qp ?_ | refine z0a ?_ | rfl
   | (with_reducible first | refine ok_lt ?_ ?_ | refine ok_le ?_ ?_ | refine z0h ?_ ?_ | refine z0l ?_ ?_ | refine z0n ?_ ?_ | refine qu ?_ ?_ | refine ok_if ?_ ?_) <;> intro _ <;> try (exfalso; omega)
 · rename_i h; rw [eqI_t h]; rfl
 · rename_i h g; rw [eqI_f h, eqI_t g]; rfl
 · rename_i h g; rw [eqI_f h, eqI_f g]; rfl
theorem z23r (l : List T1) (x : T0) (hl : l.length ≤ 1000) : Ok (zzt l x) fun r => (r.2 = true ∧ ∃ i, ∃ h : i < l.length, r.1 = l[i] ∧ l[i].1 = x ∧ ∀ j (hj : j < l.length), j < i → ¬ l[j].1 = x) ∨ r.2 = false := by
 unfold zzt
 refine z0a (z1k l.length (fun i _ => (l, (i : Int), x, _)) (fun i (_ : Unit) => ∀ j (hj : j < l.length), j < i → ¬ l[j].1 = x) () rfl (fun j _ h => by omega) (fun _ _ => ?_) fun i _ hi hI => ?_)
 · unfold z7j zl4
   dsimp only
   repeat' first
     | (dsimp only [Int.toNat_natCast, List.length_nil])
     | ((with_reducible refine z0z ?_ ?_) <;> intro _ <;> try (exfalso; omega))
     | with_reducible first | refine z0g ?_ | refine z0f ?_ | refine z0d ?_ | refine z0e ?_ | refine z0b ?_ | refine z0i ?_ | refine qs ?_ | refine qb ?_ | refine z0j ?_ | refine qw ?_ | refine z0m ?_ | refine z0k ?_ | refine qi ?_ | refine qg (h := ?_) | refine qx (h := ?_) | refine qy (h := ?_) | refine qa ?_ | refine qc ?_ | refine ql ?_ | refine qp ?_ | refine z0a ?_ | rfl
     | (with_reducible first | refine ok_lt ?_ ?_ | refine ok_le ?_ ?_ | refine z0h ?_ ?_ | refine z0l ?_ ?_ | refine z0n ?_ ?_ | refine qu ?_ ?_ | refine ok_if ?_ ?_) <;> intro _ <;> try (exfalso; omega)
   exact .inr rfl
 · unfold z7j zl4
   dsimp only
   repeat' first
     | (dsimp only [Int.toNat_natCast, List.length_nil])
     | ((with_reducible refine z0z ?_ ?_) <;> intro _ <;> try (exfalso; omega))
     | with_reducible first | refine z0g ?_ | refine z0f ?_ | refine z0d ?_ | refine z0e ?_ | refine z0b ?_ | refine z0i ?_ | refine qs ?_ | refine qb ?_ | refine z0j ?_ | refine qw ?_ | refine z0m ?_ | refine z0k ?_ | refine qi ?_ | refine qg (h := ?_) | refine qx (h := ?_) | refine qy (h := ?_) | refine qa ?_ | refine qc ?_ | refine ql ?_ | refine qp ?_ | refine z0a ?_ | rfl
     | (with_reducible first | refine ok_lt ?_ ?_ | refine ok_le ?_ ?_ | refine z0h ?_ ?_ | refine z0l ?_ ?_ | refine z0n ?_ ?_ | refine qu ?_ ?_ | refine ok_if ?_ ?_) <;> intro _ <;> try (exfalso; omega)
   · rename_i h1 h2
     refine .inl ⟨rfl, i, hi, rfl, ?_, hI⟩
     exact h2
   · rename_i h1 h2
     refine ⟨(), by rw [z0r (by omega)]; rfl, fun j hj hlt => ?_⟩
     by_cases e : j = i
     · subst e; exact h2
     · exact hI j hj (by omega)
theorem z1ri (n : Int) (hn : n ≤ 1000) : Ok (zq5 n) fun r => r.length = n.toNat := by
 unfold zq5
 refine z0a (z1k n.toNat (fun i _ => (n, List.replicate i (0 : Int), (i : Int))) (fun _ (_ : Unit) => True) () rfl trivial (fun _ _ => ?_) fun i _ hi _ => ?_)
 · unfold z5b zgs
   dsimp only
   repeat' first
     | (dsimp only [Int.toNat_natCast, List.length_nil])
     | ((with_reducible refine z0z ?_ ?_) <;> intro _ <;> try (exfalso; omega))
     | with_reducible first | refine z0g ?_ | refine z0f ?_ | refine z0d ?_ | refine z0e ?_ | refine z0b ?_ | refine z0i ?_ | refine qs ?_ | refine qb ?_ | refine z0j ?_ | refine qw ?_ | refine z0m ?_ | refine z0k ?_ | refine qi ?_ | refine qg (h := ?_) | refine qx (h := ?_) | refine qy (h := ?_) | refine qa ?_ | refine qc ?_ | refine ql ?_ | refine qp ?_ | refine z0a ?_ | rfl
     | (with_reducible first | refine ok_lt ?_ ?_ | refine ok_le ?_ ?_ | refine z0h ?_ ?_ | refine z0l ?_ ?_ | refine z0n ?_ ?_ | refine qu ?_ ?_ | refine ok_if ?_ ?_) <;> intro _ <;> try (exfalso; omega)
   exact List.length_replicate ..
 · unfold z5b zgs
   dsimp only
   repeat' first
     | (dsimp only [Int.toNat_natCast, List.length_nil])
     | ((with_reducible refine z0z ?_ ?_) <;> intro _ <;> try (exfalso; omega))
     | with_reducible first | refine z0g ?_ | refine z0f ?_ | refine z0d ?_ | refine z0e ?_ | refine z0b ?_ | refine z0i ?_ | refine qs ?_ | refine qb ?_ | refine z0j ?_ | refine qw ?_ | refine z0m ?_ | refine z0k ?_ | refine qi ?_ | refine qg (h := ?_) | refine qx (h := ?_) | refine qy (h := ?_) | refine qa ?_ | refine qc ?_ | refine ql ?_ | refine qp ?_ | refine z0a ?_ | rfl
     | (with_reducible first | refine ok_lt ?_ ?_ | refine ok_le ?_ ?_ | refine z0h ?_ ?_ | refine z0l ?_ ?_ | refine z0n ?_ ?_ | refine qu ?_ ?_ | refine ok_if ?_ ?_) <;> intro _ <;> try (exfalso; omega)
   exact ⟨(), by rw [z0r (by omega), List.replicate_succ' (n := i)]; rfl, trivial⟩
theorem z1z1 (data : List Int) (n : Int) (hd : data.length ≤ 250) : Ok (z14u data n) fun r => r.1.length ≤ 250 := by
 unfold z14u
 repeat' first
   | (dsimp only [Int.toNat_natCast, List.length_nil])
   | ((with_reducible refine z1e (z1ri _ ?_) ?_))
   | ((with_reducible refine z0z ?_ ?_) <;> intro _ <;> try (exfalso; omega))
   | with_reducible first | refine z0g ?_ | refine z0f ?_ | refine z0d ?_ | refine z0e ?_ | refine z0b ?_ | refine z0i ?_ | refine qs ?_ | refine qb ?_ | refine z0j ?_ | refine qw ?_ | refine z0m ?_ | refine z0k ?_ | refine qi ?_ | refine qg (h := ?_) | refine qx (h := ?_) | refine qy (h := ?_) | refine qa ?_ | refine qc ?_ | refine ql ?_ | refine qp ?_ | refine z0a ?_ | rfl
   | (with_reducible first | refine ok_lt ?_ ?_ | refine ok_le ?_ ?_ | refine z0h ?_ ?_ | refine z0l ?_ ?_ | refine z0n ?_ ?_ | refine qu ?_ ?_ | refine ok_if ?_ ?_) <;> intro _ <;> try (exfalso; omega)
 · exact Nat.zero_le _
 · exact Nat.zero_le _
 · rw [z0r (by omega)]; omega
 · intro r hr
   rw [z0r (by omega)] at hr
   repeat' first
     | (dsimp only [Int.toNat_natCast, List.length_nil])
     | ((with_reducible refine z0z ?_ ?_) <;> intro _ <;> try (exfalso; omega))
     | with_reducible first | refine z0g ?_ | refine z0f ?_ | refine z0d ?_ | refine z0e ?_ | refine z0b ?_ | refine z0i ?_ | refine qs ?_ | refine qb ?_ | refine z0j ?_ | refine qw ?_ | refine z0m ?_ | refine z0k ?_ | refine qi ?_ | refine qg (h := ?_) | refine qx (h := ?_) | refine qy (h := ?_) | refine qa ?_ | refine qc ?_ | refine ql ?_ | refine qp ?_ | refine z0a ?_ | rfl
     | (with_reducible first | refine ok_lt ?_ ?_ | refine ok_le ?_ ?_ | refine z0h ?_ ?_ | refine z0l ?_ ?_ | refine z0n ?_ ?_ | refine qu ?_ ?_ | refine ok_if ?_ ?_) <;> intro _ <;> try (exfalso; omega)
   show (subL _ _ _).length ≤ 250
   unfold subL; simp; omega
theorem z1rv (data : List Int) (off : Int) (t : List Int) (hd : data.length ≤ 250) (ht : t.length ≤ 250) (ho : -9223372036854775808 ≤ off ∧ off ≤ 9223372036854775807) : Ok (zwe data off t) fun r => r.1.length ≤ 250 := by
 unfold zwe
 by_cases h0 : off < 0
 · repeat' first
     | (dsimp only [Int.toNat_natCast, List.length_nil])
     | ((with_reducible refine z0z ?_ ?_) <;> intro _ <;> try (exfalso; omega))
     | with_reducible first | refine z0g ?_ | refine z0f ?_ | refine z0d ?_ | refine z0e ?_ | refine z0b ?_ | refine z0i ?_ | refine qs ?_ | refine qb ?_ | refine z0j ?_ | refine qw ?_ | refine z0m ?_ | refine z0k ?_ | refine qi ?_ | refine qg (h := ?_) | refine qx (h := ?_) | refine qy (h := ?_) | refine qa ?_ | refine qc ?_ | refine ql ?_ | refine qp ?_ | refine z0a ?_ | rfl
     | (with_reducible first | refine ok_lt ?_ ?_ | refine ok_le ?_ ?_ | refine z0h ?_ ?_ | refine z0l ?_ ?_ | refine z0n ?_ ?_ | refine qu ?_ ?_ | refine ok_if ?_ ?_) <;> intro _ <;> try (exfalso; omega)
   exact Nat.zero_le _
 by_cases h1 : 200 < off
 · repeat' first
     | (dsimp only [Int.toNat_natCast, List.length_nil])
     | ((with_reducible refine z0z ?_ ?_) <;> intro _ <;> try (exfalso; omega))
     | with_reducible first | refine z0g ?_ | refine z0f ?_ | refine z0d ?_ | refine z0e ?_ | refine z0b ?_ | refine z0i ?_ | refine qs ?_ | refine qb ?_ | refine z0j ?_ | refine qw ?_ | refine z0m ?_ | refine z0k ?_ | refine qi ?_ | refine qg (h := ?_) | refine qx (h := ?_) | refine qy (h := ?_) | refine qa ?_ | refine qc ?_ | refine ql ?_ | refine qp ?_ | refine z0a ?_ | rfl
     | (with_reducible first | refine ok_lt ?_ ?_ | refine ok_le ?_ ?_ | refine z0h ?_ ?_ | refine z0l ?_ ?_ | refine z0n ?_ ?_ | refine qu ?_ ?_ | refine ok_if ?_ ?_) <;> intro _ <;> try (exfalso; omega)
   exact Nat.zero_le _
 rw [z0r (n := off + (t.length : Nat)) (by omega), z0r (n := off + (t.length : Nat) - (data.length : Nat)) (by omega)]
 repeat' first
   | (dsimp only [Int.toNat_natCast, List.length_nil])
   | ((with_reducible refine z1e (z1ri _ (by omega)) ?_))
   | ((with_reducible refine z0z ?_ ?_) <;> intro _ <;> try (exfalso; omega))
   | with_reducible first | refine z0g ?_ | refine z0f ?_ | refine z0d ?_ | refine z0e ?_ | refine z0b ?_ | refine z0i ?_ | refine qs ?_ | refine qb ?_ | refine z0j ?_ | refine qw ?_ | refine z0m ?_ | refine z0k ?_ | refine qi ?_ | refine qg (h := ?_) | refine qx (h := ?_) | refine qy (h := ?_) | refine qa ?_ | refine qc ?_ | refine ql ?_ | refine qp ?_ | refine z0a ?_ | rfl
   | (with_reducible first | refine ok_lt ?_ ?_ | refine ok_le ?_ ?_ | refine z0h ?_ ?_ | refine z0l ?_ ?_ | refine z0n ?_ ?_ | refine qu ?_ ?_ | refine ok_if ?_ ?_) <;> intro _ <;> try (exfalso; omega)
 · exact Nat.zero_le _
 · exact Nat.zero_le _
 · intro r hr
   have e1 : (subL (data ++ r) 0 off).length = off.toNat := by unfold subL; simp; omega
   have e2 : (subL (data ++ r) (off + (t.length : Nat)) (((data ++ r).length : Nat) : Int)).length ≤ 250 := by unfold subL; simp; omega
   simp only [List.length_append] at e2
   repeat' first
     | (dsimp only [Int.toNat_natCast, List.length_nil])
     | ((with_reducible refine z0z ?_ ?_) <;> intro _ <;> try (exfalso; omega))
     | with_reducible first | refine z0g ?_ | refine z0f ?_ | refine z0d ?_ | refine z0e ?_ | refine z0b ?_ | refine z0i ?_ | refine qs ?_ | refine qb ?_ | refine z0j ?_ | refine qw ?_ | refine z0m ?_ | refine z0k ?_ | refine qi ?_ | refine qg (h := ?_) | refine qx (h := ?_) | refine qy (h := ?_) | refine qa ?_ | refine qc ?_ | refine ql ?_ | refine qp ?_ | refine z0a ?_ | rfl
     | (with_reducible first | refine ok_lt ?_ ?_ | refine ok_le ?_ ?_ | refine z0h ?_ ?_ | refine z0l ?_ ?_ | refine z0n ?_ ?_ | refine qu ?_ ?_ | refine ok_if ?_ ?_) <;> intro _ <;> try (exfalso; omega)
   · rw [List.length_append, List.length_append, e1]
     have : (subL (data ++ r) (off + (t.length : Nat)) (((data ++ r).length : Nat) : Int)).length = (data ++ r).length - (off + (t.length : Nat)).toNat := by unfold subL; simp; omega
     rw [this, List.length_append]; omega
theorem z1vq : MonoR zl7 := by
 intro r r' h x y hy
 unfold zl7 zr3 at *
 rw [Option.bind_eq_some_iff] at hy ⊢
 obtain ⟨f, h1, h2⟩ := hy
 refine ⟨f, h1, ?_⟩
 cases hf : f.2 with
 | false => rw [hf] at h2; exact h2
 | true =>
   rw [hf] at h2
   simp only [Bool.not_true, cond_false] at h2 ⊢
   cases hk : eqI f.1.2.2.1 5 with
   | true => rw [hk] at h2; exact h2
   | false =>
     rw [hk] at h2
     simp only [cond_false] at h2 ⊢
     rw [Option.bind_eq_some_iff] at h2 ⊢
     obtain ⟨j, h3, h4⟩ := h2
     refine ⟨j, ?_, h4⟩
     unfold z0u at h3 ⊢
     cases hb : Nat.ble f.1.2.2.2.2.2.2.2.1.length 9223372036854775807 with
     | false => rw [hb] at h3; cases h3
     | true =>
       rw [hb] at h3
       simp only [cond_true] at h3 ⊢
       cases hl : ltI 0 ((f.1.2.2.2.2.2.2.2.1.length : Nat) : Int) with
       | false => rw [hl] at h3; exact h3
       | true =>
         rw [hl] at h3
         simp only [cond_true] at h3 ⊢
         rw [Option.bind_eq_some_iff] at h3 ⊢
         obtain ⟨b, h5, h6⟩ := h3
         refine ⟨b, h5, ?_⟩
         rw [Option.bind_eq_some_iff] at h6 ⊢
         obtain ⟨d, h7, h8⟩ := h6
         exact ⟨d, h _ _ h7, h8⟩
theorem z1s4 {l : List T1} (hl : l.length ≤ 1000) (hin : ∀ e, e ∈ l → EvIn e) (hc : Chain l) : ∀ (k : Nat) (x : T0), (∀ i (h : i < l.length), l[i].1 = x → (∀ j (hj : j < l.length), j < i → ¬ l[j].1 = x) → i < k) → Ok (iterR zl7 (k + 1) (l, x)) fun d => d.length ≤ 250
 | k, x, hk => by
   show Ok (zr3 (iterR zl7 k) l x) _
   unfold zr3
   refine z1e (z23r l x hl) fun f hf => ?_
   rcases hf with ⟨f1, i, hi, f2, f3, f4⟩ | f1
   · rw [f1]
     have he := hin _ (List.getElem_mem hi)
     have hik := hk i hi f3 f4
     have hb10 := he.base
     simp only [zju] at hb10
     rw [← f2] at he hb10
     obtain ⟨e, b⟩ := f
     simp only at f1 f2 he hb10 ⊢
     repeat' first
       | (dsimp only [Int.toNat_natCast, List.length_nil])
       | ((with_reducible refine z0z ?_ ?_) <;> intro _ <;> try (exfalso; omega))
       | with_reducible first | refine z0g ?_ | refine z0f ?_ | refine z0d ?_ | refine z0e ?_ | refine z0b ?_ | refine z0i ?_ | refine qs ?_ | refine qb ?_ | refine z0j ?_ | refine qw ?_ | refine z0m ?_ | refine z0k ?_ | refine qi ?_ | refine qg (h := ?_) | refine qx (h := ?_) | refine qy (h := ?_) | refine qa ?_ | refine qc ?_ | refine ql ?_ | refine qp ?_ | refine z0a ?_ | rfl
       | (with_reducible first | refine ok_lt ?_ ?_ | refine ok_le ?_ ?_ | refine z0h ?_ ?_ | refine z0l ?_ ?_ | refine z0n ?_ ?_ | refine qu ?_ ?_ | refine ok_if ?_ ?_) <;> intro _ <;> try (exfalso; omega)
     · exact he.data
     · rename_i h5 h6
       have hb0 : 0 < (zju e).length := by simp only [zju]; omega
       refine z8z (R := fun d : List Int => d.length ≤ 250) ?_ fun d hd => ?_
       · obtain ⟨j, hj, hji, ej⟩ := hc i hi (zju e)[0] (by rw [← f2, getE hb0])
         obtain ⟨k', rfl⟩ : ∃ k', k = k' + 1 := ⟨k - 1, by omega⟩
         refine z1s4 hl hin hc k' _ fun i' h' e1 e2 => ?_
         have : i' ≤ j := by
           apply Classical.byContradiction
           intro hlt
           exact e2 j hj (by omega) ej
         omega
       · repeat' first
           | (dsimp only [Int.toNat_natCast, List.length_nil])
           | ((with_reducible refine z0z ?_ ?_) <;> intro _ <;> try (exfalso; omega))
           | with_reducible first | refine z0g ?_ | refine z0f ?_ | refine z0d ?_ | refine z0e ?_ | refine z0b ?_ | refine z0i ?_ | refine qs ?_ | refine qb ?_ | refine z0j ?_ | refine qw ?_ | refine z0m ?_ | refine z0k ?_ | refine qi ?_ | refine qg (h := ?_) | refine qx (h := ?_) | refine qy (h := ?_) | refine qa ?_ | refine qc ?_ | refine ql ?_ | refine qp ?_ | refine z0a ?_ | rfl
           | (with_reducible first | refine ok_lt ?_ ?_ | refine ok_le ?_ ?_ | refine z0h ?_ ?_ | refine z0l ?_ ?_ | refine z0n ?_ ?_ | refine qu ?_ ?_ | refine ok_if ?_ ?_) <;> intro _ <;> try (exfalso; omega)
         · refine z8z (z1z1 _ _ hd) fun _ h => ?_
           exact z0d h
         · refine z8z (z1rv _ _ _ hd he.data he.off) fun _ h => ?_
           exact z0d h
     · refine z8z (z1z1 _ _ (Nat.zero_le _)) fun _ h => ?_
       exact z0d h
     · refine z8z (z1rv _ _ _ (Nat.zero_le _) he.data he.off) fun _ h => ?_
       exact z0d h
   · rw [f1]
     repeat' first
       | (dsimp only [Int.toNat_natCast, List.length_nil])
       | ((with_reducible refine z0z ?_ ?_) <;> intro _ <;> try (exfalso; omega))
       | with_reducible first | refine z0g ?_ | refine z0f ?_ | refine z0d ?_ | refine z0e ?_ | refine z0b ?_ | refine z0i ?_ | refine qs ?_ | refine qb ?_ | refine z0j ?_ | refine qw ?_ | refine z0m ?_ | refine z0k ?_ | refine qi ?_ | refine qg (h := ?_) | refine qx (h := ?_) | refine qy (h := ?_) | refine qa ?_ | refine qc ?_ | refine ql ?_ | refine qp ?_ | refine z0a ?_ | rfl
       | (with_reducible first | refine ok_lt ?_ ?_ | refine ok_le ?_ ?_ | refine z0h ?_ ?_ | refine z0l ?_ ?_ | refine z0n ?_ ?_ | refine qu ?_ ?_ | refine ok_if ?_ ?_) <;> intro _ <;> try (exfalso; omega)
     exact Nat.zero_le _
theorem z1nm {l : List T1} (hl : l.length ≤ 1000) (hin : ∀ e, e ∈ l → EvIn e) (hc : Chain l) (x : T0) : Ok (z18a l x) fun d => d.length ≤ 250 :=
 z23n z1vq (z1s4 hl hin hc l.length x fun i h _ _ => h)
end Go.Proofs.Ytfbdjicfkcklfaa
set_option maxRecDepth 100000
set_option linter.unusedSimpArgs false
set_option linter.unusedVariables false
namespace Go.Proofs.Ytfbdjicfkcklfaa
open Go.Tm Go.Ab
def z8q (l : List T1) : List Int := l.foldl (fun v e => withV v e.1) zeroV
theorem z1n2 (l : List T1) (e : T1) : z8q (l ++ [e]) = withV (z8q l) e.1 := by simp [z8q]
theorem z1jy : ∀ (l : List T1) (v : List Int), VecOk v → natV v → VecOk (l.foldl (fun v e => withV v e.1) v) ∧ natV (l.foldl (fun v e => withV v e.1) v) ∧ leV v (l.foldl (fun v e => withV v e.1) v)
 | [], v, h, g => ⟨h, g, z20m v⟩
 | e :: l, v, h, g => by
   obtain ⟨h1, h2, h3⟩ := z1jy l (withV v e.1) (zl5 h _) (zrr h (zfy _) g)
   exact ⟨h1, h2, z1h2 (z1bn h (zfy _)) h3⟩
theorem z1j2 : ∀ (l : List T1) (v : List Int), VecOk v → natV v → ∀ e, e ∈ l → 1 ≤ e.1.1 ∧ e.1.1 ≤ 8 → zu7 (l.foldl (fun v e => withV v e.1) v) e.1
 | a :: l, v, h, g, e, he, hr => by
   have hw := zl5 h a.1
   have hn := zrr h (zfy a.1) g
   rcases List.mem_cons.1 he with rfl | he
   · exact z1j1 (z1jy l _ hw hn).2.2 (z1im h hr)
   · exact z1j2 l _ hw hn e he hr
theorem zef (l : List T1) : VecOk (z8q l) ∧ natV (z8q l) := by
 obtain ⟨h1, h2, _⟩ := z1jy l zeroV zvm z16l
 exact ⟨h1, h2⟩
theorem z1s8 (l : List T1) (hl : l.length ≤ 1000) : zqw l = some (z8q l) := by
 refine ok_is ?_
 unfold zqw
 refine z0a (z1k l.length (fun i _ => (l, (i : Int), List.replicate 8 (0 : Int), z8q (l.take i))) (fun _ (_ : Unit) => True) () rfl trivial (fun _ _ => ?_) fun i _ hi _ => ?_)
 · unfold z5d zh0
   dsimp only
   repeat' first
     | (dsimp only [Int.toNat_natCast, List.length_nil])
     | ((with_reducible refine z0z ?_ ?_) <;> intro _ <;> try (exfalso; omega))
     | with_reducible first | refine z0g ?_ | refine z0f ?_ | refine z0d ?_ | refine z0e ?_ | refine z0b ?_ | refine z0i ?_ | refine qs ?_ | refine qb ?_ | refine z0j ?_ | refine qw ?_ | refine z0m ?_ | refine z0k ?_ | refine qi ?_ | refine qg (h := ?_) | refine qx (h := ?_) | refine qy (h := ?_) | refine qa ?_ | refine qc ?_ | refine ql ?_ | refine qp ?_ | refine z0a ?_ | rfl
     | (with_reducible first | refine ok_lt ?_ ?_ | refine ok_le ?_ ?_ | refine z0h ?_ ?_ | refine z0l ?_ ?_ | refine z0n ?_ ?_ | refine qu ?_ ?_ | refine ok_if ?_ ?_) <;> intro _ <;> try (exfalso; omega)
   rw [List.take_length]
 · unfold z5d zh0
   dsimp only
   repeat' first
     | (dsimp only [Int.toNat_natCast, List.length_nil])
     | ((with_reducible refine ok_eq (zlx (zef _).1 _) ?_))
     | ((with_reducible refine z0z ?_ ?_) <;> intro _ <;> try (exfalso; omega))
     | with_reducible first | refine z0g ?_ | refine z0f ?_ | refine z0d ?_ | refine z0e ?_ | refine z0b ?_ | refine z0i ?_ | refine qs ?_ | refine qb ?_ | refine z0j ?_ | refine qw ?_ | refine z0m ?_ | refine z0k ?_ | refine qi ?_ | refine qg (h := ?_) | refine qx (h := ?_) | refine qy (h := ?_) | refine qa ?_ | refine qc ?_ | refine ql ?_ | refine qp ?_ | refine z0a ?_ | rfl
     | (with_reducible first | refine ok_lt ?_ ?_ | refine ok_le ?_ ?_ | refine z0h ?_ ?_ | refine z0l ?_ ?_ | refine z0n ?_ ?_ | refine qu ?_ ?_ | refine ok_if ?_ ?_) <;> intro _ <;> try (exfalso; omega)
   exact ⟨(), by rw [z0r (by omega), List.take_succ_eq_append_getElem hi, z1n2]; rfl, trivial⟩
structure Evs (l : List T1) (K : List Int) : Prop where
 len : l.length ≤ 1000
 ev : ∀ e, e ∈ l → EvIn e
 chain : Chain l
 rep : ∀ e, e ∈ l → 1 ≤ e.1.1 ∧ e.1.1 ≤ 8
 vec : VecOk K
 nat : natV K
 means : ∀ e, e ∈ l → zu7 K e.1
 dep : ∀ e, e ∈ l → leV e.2.1 K
structure ByOk (K b : List Int) : Prop where
 v : VecOk b
 n : natV b
 le : leV b K
theorem ByOk.zero {l : List T1} {K : List Int} (h : Evs l K) : ByOk K (List.replicate 8 (0 : Int)) := ⟨zvm, z16l, fun i hi => by have := z1sl i; unfold zeroV at this; rw [this]; exact h.nat i hi⟩
theorem ByOk.join {K a b : List Int} (h : ByOk K a) (g : ByOk K b) : ByOk K (joinV a b) := ⟨z1c7 h.v g.v, zrr h.v g.v h.n, z1tb h.v g.v h.le g.le⟩
theorem ByOk.with {l : List T1} {K a : List Int} (h : Evs l K) (g : ByOk K a) {e : T1} (he : e ∈ l) : ByOk K (withV a e.1) := ⟨zl5 g.v _, zrr g.v (zfy _) g.n, z1k3 g.v g.le h.nat (h.means e he)⟩
structure EntOk (l : List T1) (K : List Int) (x : T2) : Prop where
 by' : ByOk K x.2.2.2.2
 ev : ∃ e, e ∈ l ∧ (zhe e = 1 ∨ zhe e = 2 ∨ zhe e = 7) ∧ x.1 = e.1 ∧ x.2.1 = e.2.2.2.2.1 ∧ x.2.2.1 = e.2.2.2.2.2.1 ∧ x.2.2.2.1 = if zhe e = 7 then e.2.2.2.1 else e.1
theorem z1xn {P : T2 → Prop} (hv : ∀ y, P y → VecOk y.2.2.2.2) (hj : ∀ y z, P y → P z → P (y.1, y.2.1, y.2.2.1, y.2.2.2.1, joinV y.2.2.2.2 z.2.2.2.2)) (l : List T2) (x : T2) (hl : l.length ≤ 2000) (hp : ∀ y, y ∈ l → P y) (hx : P x) :
   Ok (zhy l x) fun r => r.length ≤ l.length + 1 ∧ ∀ y, y ∈ r → P y := by
 unfold zhy
 repeat' first
   | (dsimp only [Int.toNat_natCast, List.length_nil])
   | ((with_reducible refine z0z ?_ ?_) <;> intro _ <;> try (exfalso; omega))
   | with_reducible first | refine z0g ?_ | refine z0f ?_ | refine z0d ?_ | refine z0e ?_ | refine z0b ?_ | refine z0i ?_ | refine qs ?_ | refine qb ?_ | refine z0j ?_ | refine qw ?_ | refine z0m ?_ | refine z0k ?_ | refine qi ?_ | refine qg (h := ?_) | refine qx (h := ?_) | refine qy (h := ?_) | refine qa ?_ | refine qc ?_ | refine ql ?_ | refine qp ?_ | refine z0a ?_ | rfl
   | (with_reducible first | refine ok_lt ?_ ?_ | refine ok_le ?_ ?_ | refine z0h ?_ ?_ | refine z0l ?_ ?_ | refine z0n ?_ ?_ | refine qu ?_ ?_ | refine ok_if ?_ ?_) <;> intro _ <;> try (exfalso; omega)
 refine z1k l.length (fun i (a : Bool × List T2) => (l, a.1, (i : Int), x, a.2)) (fun i a => a.2.length ≤ i + (if a.1 = true then 1 else 0) ∧ ∀ y, y ∈ a.2 → P y) (false, []) rfl ⟨Nat.zero_le _, fun y hy => by cases hy⟩ (fun a ha => ?_) fun i a hi ha => ?_
 · obtain ⟨put, out⟩ := a
   obtain ⟨h1, h2⟩ := ha
   unfold z3p zd9
   dsimp only
   simp only at h1 h2
   have hb : out.length ≤ l.length + 1 := by split at h1 <;> omega
   cases put with
   | true =>
     repeat' first
       | (dsimp only [Int.toNat_natCast, List.length_nil])
       | ((with_reducible refine z0z ?_ ?_) <;> intro _ <;> try (exfalso; omega))
       | with_reducible first | refine z0g ?_ | refine z0f ?_ | refine z0d ?_ | refine z0e ?_ | refine z0b ?_ | refine z0i ?_ | refine qs ?_ | refine qb ?_ | refine z0j ?_ | refine qw ?_ | refine z0m ?_ | refine z0k ?_ | refine qi ?_ | refine qg (h := ?_) | refine qx (h := ?_) | refine qy (h := ?_) | refine qa ?_ | refine qc ?_ | refine ql ?_ | refine qp ?_ | refine z0a ?_ | rfl
       | (with_reducible first | refine ok_lt ?_ ?_ | refine ok_le ?_ ?_ | refine z0h ?_ ?_ | refine z0l ?_ ?_ | refine z0n ?_ ?_ | refine qu ?_ ?_ | refine ok_if ?_ ?_) <;> intro _ <;> try (exfalso; omega)
     exact ⟨hb, h2⟩
   | false =>
     simp only [Bool.false_eq_true, if_false] at h1
     repeat' first
       | (dsimp only [Int.toNat_natCast, List.length_nil])
       | ((with_reducible refine z0z ?_ ?_) <;> intro _ <;> try (exfalso; omega))
       | with_reducible first | refine z0g ?_ | refine z0f ?_ | refine z0d ?_ | refine z0e ?_ | refine z0b ?_ | refine z0i ?_ | refine qs ?_ | refine qb ?_ | refine z0j ?_ | refine qw ?_ | refine z0m ?_ | refine z0k ?_ | refine qi ?_ | refine qg (h := ?_) | refine qx (h := ?_) | refine qy (h := ?_) | refine qa ?_ | refine qc ?_ | refine ql ?_ | refine qp ?_ | refine z0a ?_ | rfl
       | (with_reducible first | refine ok_lt ?_ ?_ | refine ok_le ?_ ?_ | refine z0h ?_ ?_ | refine z0l ?_ ?_ | refine z0n ?_ ?_ | refine qu ?_ ?_ | refine ok_if ?_ ?_) <;> intro _ <;> try (exfalso; omega)
     refine ⟨by simp; omega, fun y hy => ?_⟩
     rcases List.mem_append.1 hy with hy | hy
     · exact h2 y hy
     · simp only [List.mem_singleton] at hy; subst hy; exact hx
 · obtain ⟨put, out⟩ := a
   obtain ⟨h1, h2⟩ := ha
   unfold z3p zd9
   dsimp only
   simp only at h1 h2
   have hb : out.length ≤ i + 1 := by split at h1 <;> omega
   have hpi := hp _ (List.getElem_mem hi)
   have add : ∀ (o : List T2) (z : T2), (∀ y, y ∈ o → P y) → P z → ∀ y, y ∈ o ++ [z] → P y := fun o z ho hz y hy => by
     rcases List.mem_append.1 hy with hy | hy
     · exact ho y hy
     · simp only [List.mem_singleton] at hy; subst hy; exact hz
   repeat' first
     | (dsimp only [Int.toNat_natCast, List.length_nil])
     | ((with_reducible refine ok_eq (z1hh (hv _ hpi) (hv _ hx)) ?_))
     | ((with_reducible refine ok_eq (zvn _ _) ?_))
     | ((with_reducible refine z0z ?_ ?_) <;> intro _ <;> try (exfalso; omega))
     | with_reducible first | refine z0g ?_ | refine z0f ?_ | refine z0d ?_ | refine z0e ?_ | refine z0b ?_ | refine z0i ?_ | refine qs ?_ | refine qb ?_ | refine z0j ?_ | refine qw ?_ | refine z0m ?_ | refine z0k ?_ | refine qi ?_ | refine qg (h := ?_) | refine qx (h := ?_) | refine qy (h := ?_) | refine qa ?_ | refine qc ?_ | refine ql ?_ | refine qp ?_ | refine z0a ?_ | rfl
     | (with_reducible first | refine ok_lt ?_ ?_ | refine ok_le ?_ ?_ | refine z0h ?_ ?_ | refine z0l ?_ ?_ | refine z0n ?_ ?_ | refine qu ?_ ?_ | refine ok_if ?_ ?_) <;> intro _ <;> try (exfalso; omega)
   · refine ⟨(true, _), by rw [z0r (by omega)]; rfl, ?_, add _ _ h2 (hj _ _ hpi hx)⟩
     simp only [if_true, List.length_append, List.length_singleton]; split at h1 <;> omega
   · rename_i e1
     subst e1
     simp only [if_true] at h1
     refine ⟨(true, _), by rw [z0r (by omega)]; rfl, ?_, add _ _ h2 hpi⟩
     simp only [if_true, List.length_append, List.length_singleton]; omega
   · rename_i e1 _
     subst e1
     simp only [Bool.false_eq_true, if_false] at h1
     refine ⟨(true, _), by rw [z0r (by omega)]; rfl, ?_, add _ _ (add _ _ h2 hx) hpi⟩
     simp only [if_true, List.length_append, List.length_singleton]; omega
   · rename_i e1 _
     subst e1
     simp only [Bool.false_eq_true, if_false] at h1
     refine ⟨(false, _), by rw [z0r (by omega)]; rfl, ?_, add _ _ h2 hpi⟩
     simp only [Bool.false_eq_true, if_false, List.length_append, List.length_singleton]; omega
theorem z22k {l : List T1} {K : List Int} (E : Evs l K) (out : List T2) (n : Int) (x : T2) (hx : ByOk K x.2.2.2.2) :
   Ok (loopC z0x (l, out, n, 0, x)) fun r => ∃ b, ByOk K b ∧ r = (l, out, n, (x.1, x.2.1, x.2.2.1, x.2.2.2.1, b)) := by
 have hl := E.len
 refine z1k l.length (fun k (b : List Int) => (l, out, n, (k : Int), (x.1, x.2.1, x.2.2.1, x.2.2.2.1, b))) (fun _ b => ByOk K b) x.2.2.2.2 rfl hx (fun b hb => ?_) fun k b hk hb => ?_
 · unfold z0x z1y
   dsimp only
   repeat' first
     | (dsimp only [Int.toNat_natCast, List.length_nil])
     | ((with_reducible refine z0z ?_ ?_) <;> intro _ <;> try (exfalso; omega))
     | with_reducible first | refine z0g ?_ | refine z0f ?_ | refine z0d ?_ | refine z0e ?_ | refine z0b ?_ | refine z0i ?_ | refine qs ?_ | refine qb ?_ | refine z0j ?_ | refine qw ?_ | refine z0m ?_ | refine z0k ?_ | refine qi ?_ | refine qg (h := ?_) | refine qx (h := ?_) | refine qy (h := ?_) | refine qa ?_ | refine qc ?_ | refine ql ?_ | refine qp ?_ | refine z0a ?_ | rfl
     | (with_reducible first | refine ok_lt ?_ ?_ | refine ok_le ?_ ?_ | refine z0h ?_ ?_ | refine z0l ?_ ?_ | refine z0n ?_ ?_ | refine qu ?_ ?_ | refine ok_if ?_ ?_) <;> intro _ <;> try (exfalso; omega)
   exact ⟨b, hb, rfl⟩
 · unfold z0x z1y
   dsimp only
   have go := (E.ev _ (List.getElem_mem hk)).gone
   have hw := ByOk.with E hb (List.getElem_mem hk)
   obtain ⟨e1, e2⟩ := in_is (z1ga l[k]) x.1 (by omega)
   repeat' first
     | (dsimp only [Int.toNat_natCast, List.length_nil])
     | ((with_reducible refine ok_eq e2 ?_))
     | ((with_reducible refine ok_eq (zlx hb.v _) ?_))
     | ((with_reducible refine z0z ?_ ?_) <;> intro _ <;> try (exfalso; omega))
     | with_reducible first | refine z0g ?_ | refine z0f ?_ | refine z0d ?_ | refine z0e ?_ | refine z0b ?_ | refine z0i ?_ | refine qs ?_ | refine qb ?_ | refine z0j ?_ | refine qw ?_ | refine z0m ?_ | refine z0k ?_ | refine qi ?_ | refine qg (h := ?_) | refine qx (h := ?_) | refine qy (h := ?_) | refine qa ?_ | refine qc ?_ | refine ql ?_ | refine qp ?_ | refine z0a ?_ | rfl
     | (with_reducible first | refine ok_lt ?_ ?_ | refine ok_le ?_ ?_ | refine z0h ?_ ?_ | refine z0l ?_ ?_ | refine z0n ?_ ?_ | refine qu ?_ ?_ | refine ok_if ?_ ?_) <;> intro _ <;> try (exfalso; omega)
   all_goals first
     | exact ⟨withV b l[k].1, by rw [z0r (by omega)]; rfl, hw⟩
     | exact ⟨b, by rw [z0r (by omega)]; rfl, hb⟩
theorem z1ng {l : List T1} {K : List Int} (E : Evs l K) : Ok (zf2 l) fun r => r.length ≤ l.length ∧ (∀ x, x ∈ r → EntOk l K x) := by
 have hl := E.len
 unfold zf2
 refine z0a (z1k l.length (fun i (a : List T2) => (l, a, (i : Int))) (fun i a => a.length ≤ i ∧ ∀ x, x ∈ a → EntOk l K x) [] rfl ⟨Nat.zero_le _, fun x hx => by cases hx⟩ (fun a ha => ?_) fun i a hi ha => ?_)
 · unfold z2s z8v
   dsimp only
   repeat' first
     | (dsimp only [Int.toNat_natCast, List.length_nil])
     | ((with_reducible refine z0z ?_ ?_) <;> intro _ <;> try (exfalso; omega))
     | with_reducible first | refine z0g ?_ | refine z0f ?_ | refine z0d ?_ | refine z0e ?_ | refine z0b ?_ | refine z0i ?_ | refine qs ?_ | refine qb ?_ | refine z0j ?_ | refine qw ?_ | refine z0m ?_ | refine z0k ?_ | refine qi ?_ | refine qg (h := ?_) | refine qx (h := ?_) | refine qy (h := ?_) | refine qa ?_ | refine qc ?_ | refine ql ?_ | refine qp ?_ | refine z0a ?_ | rfl
     | (with_reducible first | refine ok_lt ?_ ?_ | refine ok_le ?_ ?_ | refine z0h ?_ ?_ | refine z0l ?_ ?_ | refine z0n ?_ ?_ | refine qu ?_ ?_ | refine ok_if ?_ ?_) <;> intro _ <;> try (exfalso; omega)
   exact ha
 · unfold z2s z8v
   dsimp only
   have hm := List.getElem_mem hi
   have pok : ∀ x, EntOk l K x → Ok (zhy a x) fun r => r.length ≤ i + 1 ∧ ∀ y, y ∈ r → EntOk l K y := fun x hx =>
     z8z (z1xn (fun y hy => hy.by'.v) (fun y z hy hz => ⟨hy.by'.join hz.by', hy.ev⟩) a x (by omega) ha.2 hx) fun r hr => ⟨by omega, hr.2⟩
   repeat' first
     | (dsimp only [Int.toNat_natCast, List.length_nil])
     | ((with_reducible refine z1e (z22k E _ _ _ (ByOk.zero E)) ?_); rintro _ ⟨b, hb, rfl⟩)
     | ((with_reducible refine z1e (pok _ ⟨hb, _, hm, ?_⟩) ?_))
     | ((with_reducible refine z0z ?_ ?_) <;> intro _ <;> try (exfalso; omega))
     | with_reducible first | refine z0g ?_ | refine z0f ?_ | refine z0d ?_ | refine z0e ?_ | refine z0b ?_ | refine z0i ?_ | refine qs ?_ | refine qb ?_ | refine z0j ?_ | refine qw ?_ | refine z0m ?_ | refine z0k ?_ | refine qi ?_ | refine qg (h := ?_) | refine qx (h := ?_) | refine qy (h := ?_) | refine qa ?_ | refine qc ?_ | refine ql ?_ | refine qp ?_ | refine z0a ?_ | rfl
     | (with_reducible first | refine ok_lt ?_ ?_ | refine ok_le ?_ ?_ | refine z0h ?_ ?_ | refine z0l ?_ ?_ | refine z0n ?_ ?_ | refine qu ?_ ?_ | refine ok_if ?_ ?_) <;> intro _ <;> try (exfalso; omega)
   all_goals first
     | exact ⟨a, by rw [z0r (by omega)]; rfl, by omega, ha.2⟩
     | (rintro r ⟨g1, g2⟩
        repeat' first
          | (dsimp only [Int.toNat_natCast, List.length_nil])
          | ((with_reducible refine z0z ?_ ?_) <;> intro _ <;> try (exfalso; omega))
          | with_reducible first | refine z0g ?_ | refine z0f ?_ | refine z0d ?_ | refine z0e ?_ | refine z0b ?_ | refine z0i ?_ | refine qs ?_ | refine qb ?_ | refine z0j ?_ | refine qw ?_ | refine z0m ?_ | refine z0k ?_ | refine qi ?_ | refine qg (h := ?_) | refine qx (h := ?_) | refine qy (h := ?_) | refine qa ?_ | refine qc ?_ | refine ql ?_ | refine qp ?_ | refine z0a ?_ | rfl
          | (with_reducible first | refine ok_lt ?_ ?_ | refine ok_le ?_ ?_ | refine z0h ?_ ?_ | refine z0l ?_ ?_ | refine z0n ?_ ?_ | refine qu ?_ ?_ | refine ok_if ?_ ?_) <;> intro _ <;> try (exfalso; omega)
        exact ⟨r, by rw [z0r (by omega)]; rfl, g1, g2⟩)
     | (rename_i h1 h2
        exact ⟨.inl h1, rfl, rfl, rfl, by rw [if_neg h2]⟩)
     | (rename_i h1 h2
        exact ⟨.inr (.inl h1), rfl, rfl, rfl, by rw [if_neg h2]⟩)
     | (rename_i h1 h2
        exact ⟨.inr (.inr h1), rfl, rfl, rfl, by rw [if_pos h2]⟩)
theorem z20o {l : List T1} {K : List Int} (E : Evs l K) (out : List T2) (n : Int) (x : T2) (hx : ByOk K x.2.2.2.2) :
   Ok (loopC z1b (out, n, 0, l, x)) fun r => ∃ b, ByOk K b ∧ r = (out, n, l, (x.1, x.2.1, x.2.2.1, x.2.2.2.1, b)) := by
 have hl := E.len
 refine z1k l.length (fun k (b : List Int) => (out, n, (k : Int), l, (x.1, x.2.1, x.2.2.1, x.2.2.2.1, b))) (fun _ b => ByOk K b) x.2.2.2.2 rfl hx (fun b hb => ?_) fun k b hk hb => ?_
 · unfold z1b z4p
   dsimp only
   repeat' first
     | (dsimp only [Int.toNat_natCast, List.length_nil])
     | ((with_reducible refine z0z ?_ ?_) <;> intro _ <;> try (exfalso; omega))
     | with_reducible first | refine z0g ?_ | refine z0f ?_ | refine z0d ?_ | refine z0e ?_ | refine z0b ?_ | refine z0i ?_ | refine qs ?_ | refine qb ?_ | refine z0j ?_ | refine qw ?_ | refine z0m ?_ | refine z0k ?_ | refine qi ?_ | refine qg (h := ?_) | refine qx (h := ?_) | refine qy (h := ?_) | refine qa ?_ | refine qc ?_ | refine ql ?_ | refine qp ?_ | refine z0a ?_ | rfl
     | (with_reducible first | refine ok_lt ?_ ?_ | refine ok_le ?_ ?_ | refine z0h ?_ ?_ | refine z0l ?_ ?_ | refine z0n ?_ ?_ | refine qu ?_ ?_ | refine ok_if ?_ ?_) <;> intro _ <;> try (exfalso; omega)
   exact ⟨b, hb, rfl⟩
 · unfold z1b z4p
   dsimp only
   have go := (E.ev _ (List.getElem_mem hk)).gone
   have hw := ByOk.with E hb (List.getElem_mem hk)
   obtain ⟨e1, e2⟩ := in_is (z1ga l[k]) x.1 (by omega)
   repeat' first
     | (dsimp only [Int.toNat_natCast, List.length_nil])
     | ((with_reducible refine ok_eq e2 ?_))
     | ((with_reducible refine ok_eq (zlx hb.v _) ?_))
     | ((with_reducible refine z0z ?_ ?_) <;> intro _ <;> try (exfalso; omega))
     | with_reducible first | refine z0g ?_ | refine z0f ?_ | refine z0d ?_ | refine z0e ?_ | refine z0b ?_ | refine z0i ?_ | refine qs ?_ | refine qb ?_ | refine z0j ?_ | refine qw ?_ | refine z0m ?_ | refine z0k ?_ | refine qi ?_ | refine qg (h := ?_) | refine qx (h := ?_) | refine qy (h := ?_) | refine qa ?_ | refine qc ?_ | refine ql ?_ | refine qp ?_ | refine z0a ?_ | rfl
     | (with_reducible first | refine ok_lt ?_ ?_ | refine ok_le ?_ ?_ | refine z0h ?_ ?_ | refine z0l ?_ ?_ | refine z0n ?_ ?_ | refine qu ?_ ?_ | refine ok_if ?_ ?_) <;> intro _ <;> try (exfalso; omega)
   all_goals first
     | exact ⟨withV b l[k].1, by rw [z0r (by omega)]; rfl, hw⟩
     | exact ⟨b, by rw [z0r (by omega)]; rfl, hb⟩
theorem z1v2 {l : List T1} {K : List Int} (E : Evs l K) : Ok (zmk l) fun r => r.1.length ≤ l.length ∧ (∀ x, x ∈ r.1 → EntOk l K x) ∧ r.2 = l := by
 have hl := E.len
 unfold zmk
 refine zc9 rfl ?_
 refine z0a (z1k l.length (fun i (a : List T2) => (a, (i : Int), l)) (fun i a => a.length ≤ i ∧ ∀ x, x ∈ a → EntOk l K x) [] rfl ⟨Nat.zero_le _, fun x hx => by cases hx⟩ (fun a ha => ?_) fun i a hi ha => ?_)
 · unfold z3g zee
   dsimp only
   repeat' first
     | (dsimp only [Int.toNat_natCast, List.length_nil])
     | ((with_reducible refine z0z ?_ ?_) <;> intro _ <;> try (exfalso; omega))
     | with_reducible first | refine z0g ?_ | refine z0f ?_ | refine z0d ?_ | refine z0e ?_ | refine z0b ?_ | refine z0i ?_ | refine qs ?_ | refine qb ?_ | refine z0j ?_ | refine qw ?_ | refine z0m ?_ | refine z0k ?_ | refine qi ?_ | refine qg (h := ?_) | refine qx (h := ?_) | refine qy (h := ?_) | refine qa ?_ | refine qc ?_ | refine ql ?_ | refine qp ?_ | refine z0a ?_ | rfl
     | (with_reducible first | refine ok_lt ?_ ?_ | refine ok_le ?_ ?_ | refine z0h ?_ ?_ | refine z0l ?_ ?_ | refine z0n ?_ ?_ | refine qu ?_ ?_ | refine ok_if ?_ ?_) <;> intro _ <;> try (exfalso; omega)
   exact ⟨ha.1, ha.2, rfl⟩
 · unfold z3g zee
   dsimp only
   have hm := List.getElem_mem hi
   have pok : ∀ x, EntOk l K x → Ok (zhy a x) fun r => r.length ≤ i + 1 ∧ ∀ y, y ∈ r → EntOk l K y := fun x hx =>
     z8z (z1xn (fun y hy => hy.by'.v) (fun y z hy hz => ⟨hy.by'.join hz.by', hy.ev⟩) a x (by omega) ha.2 hx) fun r hr => ⟨by omega, hr.2⟩
   repeat' first
     | (dsimp only [Int.toNat_natCast, List.length_nil])
     | ((with_reducible refine z1e (z20o E _ _ _ (ByOk.zero E)) ?_); rintro _ ⟨b, hb, rfl⟩)
     | ((with_reducible refine z1e (pok _ ⟨hb, _, hm, ?_⟩) ?_))
     | ((with_reducible refine z0z ?_ ?_) <;> intro _ <;> try (exfalso; omega))
     | with_reducible first | refine z0g ?_ | refine z0f ?_ | refine z0d ?_ | refine z0e ?_ | refine z0b ?_ | refine z0i ?_ | refine qs ?_ | refine qb ?_ | refine z0j ?_ | refine qw ?_ | refine z0m ?_ | refine z0k ?_ | refine qi ?_ | refine qg (h := ?_) | refine qx (h := ?_) | refine qy (h := ?_) | refine qa ?_ | refine qc ?_ | refine ql ?_ | refine qp ?_ | refine z0a ?_ | rfl
     | (with_reducible first | refine ok_lt ?_ ?_ | refine ok_le ?_ ?_ | refine z0h ?_ ?_ | refine z0l ?_ ?_ | refine z0n ?_ ?_ | refine qu ?_ ?_ | refine ok_if ?_ ?_) <;> intro _ <;> try (exfalso; omega)
   all_goals first
     | exact ⟨a, by rw [z0r (by omega)]; rfl, by omega, ha.2⟩
     | (rintro r ⟨g1, g2⟩
        repeat' first
          | (dsimp only [Int.toNat_natCast, List.length_nil])
          | ((with_reducible refine z0z ?_ ?_) <;> intro _ <;> try (exfalso; omega))
          | with_reducible first | refine z0g ?_ | refine z0f ?_ | refine z0d ?_ | refine z0e ?_ | refine z0b ?_ | refine z0i ?_ | refine qs ?_ | refine qb ?_ | refine z0j ?_ | refine qw ?_ | refine z0m ?_ | refine z0k ?_ | refine qi ?_ | refine qg (h := ?_) | refine qx (h := ?_) | refine qy (h := ?_) | refine qa ?_ | refine qc ?_ | refine ql ?_ | refine qp ?_ | refine z0a ?_ | rfl
          | (with_reducible first | refine ok_lt ?_ ?_ | refine ok_le ?_ ?_ | refine z0h ?_ ?_ | refine z0l ?_ ?_ | refine z0n ?_ ?_ | refine qu ?_ ?_ | refine ok_if ?_ ?_) <;> intro _ <;> try (exfalso; omega)
        exact ⟨r, by rw [z0r (by omega)]; rfl, g1, g2⟩)
     | (rename_i h1 h2
        exact ⟨.inl h1, rfl, rfl, rfl, by rw [if_neg h2]⟩)
     | (rename_i h1 h2
        exact ⟨.inr (.inl h1), rfl, rfl, rfl, by rw [if_neg h2]⟩)
     | (rename_i h1 h2
        exact ⟨.inr (.inr h1), rfl, rfl, rfl, by rw [if_pos h2]⟩)
end Go.Proofs.Ytfbdjicfkcklfaa