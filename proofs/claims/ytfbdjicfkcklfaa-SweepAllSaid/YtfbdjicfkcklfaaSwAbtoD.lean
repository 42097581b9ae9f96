import Derived.Test.YtfbdjicfkcklfaaSwA
import Derived.Test.YtfbdjicfkcklfaaTm26
set_option maxRecDepth 100000
set_option linter.unusedVariables false
noncomputable section
namespace Go.Proofs.Ytfbdjicfkcklfaa
open Go.Tm Go.Ab
def z1pf : Env := ⟨[(entQ z17i z12t), (entQ ztf zrn), (entQ z1ek z1ba), (entQ z1ea z1an), (entQ zso zrc), (entQ zxs zv2)], [], []⟩
theorem z17r : EnvsOK Try.prog z1pf := ⟨z0o (z0q z1ir) (z0o (z0q zye) (z0o (z0q z1nt) (z0o (z0q z1mm) (z0o (z0q zzm) (z0o (z0q z18j) (z0x _)))))), z0u _, z0t _⟩
def zjk : Shp := ⟨92, 0, [(2, .pt 0 r15 []), (3, .pt 1 r8 []), (46, .d .bool)], [.var 33 (.d c17), .var 67 (.d c9)]⟩
def zez : XS := .one .normal zjk.xe
theorem zua : zez.OK := XS.one_ok (z0c zjk)
def zb8 : Shp := ⟨92, 0, [], []⟩
def zb7 : Shp := ⟨92, 0, [(4, .d (.int .i64))], []⟩
def z2u : XS := .or (.exit 0) zb8.xe (.one .ret zb7.xe)
theorem zhj : z2u.OK := XS.or_ok (z0c zb8) (XS.one_ok (z0c zb7))
def z2t : Shp := ⟨92, 0, [(3, .pt 0 r8 []), (5, .pt 1 r13 []), (7, .d (.int .i64))], [.var 67 (.d c9), .var 49 (.d c14)]⟩
abbrev z6m := Int × T1 × T4
abbrev zbl := (Unit) ⊕ (Int)
def z6n (i : Int) (t3 : T1) (o : T4) : Option (z6m ⊕ zbl) :=
 z0s (List.length t3.2.2.2.2.2.2.2.1) (
 bif ltI i (List.length t3.2.2.2.2.2.2.2.1 : Nat) then
 (idxI t3.2.2.2.2.2.2.2.1 i).bind fun x =>
 (zql o.2.2.2.2.2 x).bind fun r =>
 bif neI r.2 0 then
 some (.inr (.inr 2))
 else
 some (.inl (W64 (i + 1), t3, o))
 else
 some (.inr (.inl ())))
def z1k (s : z6m) : Option (z6m ⊕ zbl) := z6n s.1 s.2.1 s.2.2
theorem zhq : SoundD Try.prog (.loop (subC (bodyC Try.f34) [1, 1, 1, 1, 1, 1, 1, 1, 1, 1, 1, 1, 0, 1, 0, 0])) (loopD z2t.xe z2u (loopC z1k)) :=
 z0w (S := z2t.xe) (X := z2u) z17r (h := .no) (z0p [] (by kernel_rfl) trivial) (z0c z2t) zhj z1k (fun s => by kernel_rfl)
def z18a : Shp := ⟨1, 0, [(0, .d (.int .i64))], []⟩
def z1el : XS := .one .ret z18a.xe
theorem z1jj : z1el.OK := XS.one_ok (z0c z18a)
def z10j (t0 : T5) (t1 : T1) : Option ((Int)) :=
 (ztj t1).bind fun r =>
 bif !r then
 some 7
 else
 (zll t0.1 t1.1).bind fun r2 =>
 bif r2 then
 some 11
 else
 (zzv t1.2.1 t0.1).bind fun r3 =>
 bif !r3 then
 some 10
 else
 bif inI (W64 (t1.1.1 - 1)) 8 then
 (t0.2.2.2.2[(W64 (t1.1.1 - 1)).toNat]?).bind fun x =>
 bif x then
 some 28
 else
 bif eqI t1.2.2.1 8 then
 some 0
 else
 bif eqI t1.2.2.1 9 then
 some 0
 else
 (show Option ((Bool × T5 × T1)) from
 bif eqI t1.2.2.1 1 then
 some (true, t0, t1)
 else
 some (eqI t1.2.2.1 2, t0, t1)).bind fun j =>
 bif j.1 then
 (ztq j.2.1 j.2.2.2.2.2.2.1).bind fun r4 =>
 some r4
 else
 (zle j.2.1 j.2.2.2.2.2.1).bind fun r5 =>
 bif !r5.2 then
 some 2
 else
 bif eqI j.2.2.2.2.1 7 then
 (ztq j.2.1 j.2.2.2.2.2.2.1).bind fun r6 =>
 some r6
 else
 bif eqI j.2.2.2.2.1 6 then
 some 0
 else
 bif r5.1.2.1 then
 some 23
 else
 (loopC z1k (0, j.2.2, r5.1)).bind fun o =>
 Sum.elim (fun y =>
 some 0) (fun y2 =>
 some y2) o
 else none
def z1eh : Sig := ⟨34, [.d c17, .d c9], [], 0, z1el⟩
def z1bl (x : T5 × T1) : Option ((Int)) := z10j x.1 x.2
theorem z1m8 : FnOK Try.prog z1eh z1bl :=
 fn_ok z17r (h := (.two .no (.two .no (.two .no (.two .no (.two .no (.two .no (.two (.join (fun _ => zez) .no .no) (.two .no (.two .no (.two .no (.two .no (.two .no (.two (.two .no (.over (loopD z2t.xe z2u (loopC z1k)))) .no)))))))))))))) Try.func34 (z0p [.xs (fun _ => zez), .den (.loop (subC (bodyC Try.f34) [1, 1, 1, 1, 1, 1, 1, 1, 1, 1, 1, 1, 0, 1, 0, 0])) (loopD z2t.xe z2u (loopC z1k))] (by kernel_rfl) ⟨(z2j zua), zhq, trivial⟩) (by kernel_rfl) z1jj (fun x => by kernel_rfl)
def z1dd : Env := ⟨[(entQ zqc znu), (entQ z8v z7k), (entQ z11m zy6)], [], []⟩
theorem zk9 : EnvsOK Try.prog z1dd := ⟨z0o (z0q ztg) (z0o (z0q z9h) (z0o (z0q z1ac) (z0x _))), z0u _, z0t _⟩
def zck : Shp := ⟨101, 1, [(0, .wn 0 c9), (3, .d c5), (4, .d (.int .i64)), (5, .pt 1 r8 [])], [.row 67 c9, .var 67 (.d c9)]⟩
def zcf : Shp := ⟨101, 1, [(0, .wn 0 c9), (3, .d c5), (4, .d (.int .i64)), (23, .pt 1 r8 [.fld 2]), (24, .d (.int .i64)), (25, .d .bool), (28, .pt 1 r8 [.fld 2]), (29, .d (.int .i64)), (30, .d .bool)], [.row 67 c9, .var 67 (.d c9)]⟩
def z8w : XS := .or .normal zck.xe (.one (.exit 1) zcf.xe)
theorem zjq : z8w.OK := XS.or_ok (z0c zck) (XS.one_ok (z0c zcf))
def zbj : Shp := ⟨101, 1, [(0, .wn 0 c9), (3, .d c5), (4, .d (.int .i64)), (6, .pt 1 r7 [])], [.row 67 c9, .var 45 (.d c6)]⟩
def z6z : XS := .one .normal zbj.xe
theorem zhr : z6z.OK := XS.one_ok (z0c zbj)
def z5q : Shp := ⟨101, 1, [(0, .wn 0 c9), (3, .d c5), (4, .d (.int .i64)), (6, .pt 1 r7 []), (7, .d (.int .i64)), (8, .d .bool)], [.row 67 c9, .var 45 (.d c6)]⟩
def z2y : XS := .one .normal z5q.xe
theorem zc9 : z2y.OK := XS.one_ok (z0c z5q)
def z5d : Shp := ⟨101, 1, [(0, .wn 0 c9), (3, .d c5), (4, .d (.int .i64)), (6, .pt 1 r7 []), (7, .d (.int .i64)), (87, .d .bool)], [.row 67 c9, .var 45 (.d c6)]⟩
def z2w : XS := .one .normal z5d.xe
theorem zbm : z2w.OK := XS.one_ok (z0c z5d)
def z7q : Shp := ⟨101, 1, [(0, .wn 0 c9), (3, .d c5), (4, .d (.int .i64)), (6, .pt 1 r7 [])], [.row 67 c9, .var 45 (.d c6)]⟩
def z1u : XS := .one (.exit 2) z7q.xe
theorem ze6 : z1u.OK := XS.one_ok (z0c z7q)
def z1w : Shp := ⟨101, 1, [(0, .wn 0 c9), (3, .d c5), (4, .d (.int .i64)), (6, .pt 1 r7 []), (7, .d (.int .i64))], [.row 67 c9, .var 45 (.d c6)]⟩
abbrev z4l := (List T2) × Int × Int × (List T1) × T2
abbrev z8l := ((List T2) × Int × (List T1) × T2)
def z4i (out : List T2) (i : Int) (k : Int) (l : List T1) (x : T2) : Option (z4l ⊕ z8l) :=
 z0s (List.length l) (
 bif ltI k (List.length l : Nat) then
 (show Option (((List T2) × Int × Int × Bool × (List T1) × T2)) from
 bif inI k (List.length l) then
 (l[k.toNat]?).bind fun x2 =>
 bif eqI x2.2.2.1 6 then
 bif Nat.beq (List.length l) (List.length l) then
 some (out, i, k, true, l, x)
 else none
 else
 bif inI k (List.length l) then
 (l[k.toNat]?).bind fun x3 =>
 bif Nat.beq (List.length l) (List.length l) then
 some (out, i, k, eqI x3.2.2.1 7, l, x)
 else none
 else none
 else none).bind fun j =>
 (show Option (((List T2) × Int × Int × Bool × (List T1) × T2)) from
 bif j.2.2.2.1 then
 bif inI j.2.2.1 (List.length j.2.2.2.2.1) then
 (j.2.2.2.2.1[j.2.2.1.toNat]?).bind fun x4 =>
 bif eqU c0 x4.2.2.2.1 j.2.2.2.2.2.2.2.2.1 then
 bif inI j.2.2.1 (List.length j.2.2.2.2.1) then
 (j.2.2.2.2.1[j.2.2.1.toNat]?).bind fun x5 =>
 (zha x5.2.2.2.2.2.2.1 j.2.2.2.2.2.1).bind fun r =>
 bif Nat.beq (List.length j.2.2.2.2.1) (List.length j.2.2.2.2.1) then
 some (j.1, j.2.1, j.2.2.1, r, j.2.2.2.2.1, j.2.2.2.2.2)
 else none
 else none
 else
 bif Nat.beq (List.length j.2.2.2.2.1) (List.length j.2.2.2.2.1) then
 some (j.1, j.2.1, j.2.2.1, false, j.2.2.2.2.1, j.2.2.2.2.2)
 else none
 else none
 else
 bif Nat.beq (List.length j.2.2.2.2.1) (List.length j.2.2.2.2.1) then
 some (j.1, j.2.1, j.2.2.1, false, j.2.2.2.2.1, j.2.2.2.2.2)
 else none).bind fun j2 =>
 bif j2.2.2.2.1 then
 bif inI j2.2.2.1 (List.length j2.2.2.2.2.1) then
 (j2.2.2.2.2.1[j2.2.2.1.toNat]?).bind fun x6 =>
 (z9k j2.2.2.2.2.2.2.2.2.2 x6.1).bind fun r2 =>
 bif Nat.beq (List.length j2.2.2.2.2.1) (List.length j2.2.2.2.2.1) then
 some (.inl (j2.1, j2.2.1, W64 (j2.2.2.1 + 1), j2.2.2.2.2.1, (j2.2.2.2.2.2.1, j2.2.2.2.2.2.2.1, j2.2.2.2.2.2.2.2.1, j2.2.2.2.2.2.2.2.2.1, r2)))
 else none
 else none
 else
 bif Nat.beq (List.length j2.2.2.2.2.1) (List.length j2.2.2.2.2.1) then
 some (.inl (j2.1, j2.2.1, W64 (j2.2.2.1 + 1), j2.2.2.2.2.1, j2.2.2.2.2.2))
 else none
 else
 bif Nat.beq (List.length l) (List.length l) then
 some (.inr (out, i, l, x))
 else none)
def z1c (s : z4l) : Option (z4l ⊕ z8l) := z4i s.1 s.2.1 s.2.2.1 s.2.2.2.1 s.2.2.2.2
theorem zeb : SoundD Try.prog (.loop (subC (bodyC Try.f29) [1, 1, 0, 1, 0, 0, 1, 0, 0, 1, 1, 1, 1, 0, 1, 0, 0])) (loopD z1w.xe z1u (loopC z1c)) :=
 z0w (S := z1w.xe) (X := z1u) zk9 (h := (.two .no (.two (.join (fun _ => z2y) .no (.join (fun _ => z2w) .no .no)) .no))) (z0p [.xs (fun _ => z2y), .xs (fun _ => z2w)] (by kernel_rfl) ⟨(z2j zc9), (z2j zbm), trivial⟩) (z0c z1w) ze6 z1c (fun s => by kernel_rfl)
def zho : Shp := ⟨101, 1, [(3, .d c5)], [.row 67 c9]⟩
def z6p : XS := .one (.exit 0) zho.xe
theorem zr1 : z6p.OK := XS.one_ok (z0c zho)
def z6w : Shp := ⟨101, 1, [(0, .wn 0 c9), (3, .d c5), (4, .d (.int .i64))], [.row 67 c9]⟩
abbrev zda := (List T2) × Int × (List T1)
abbrev zin := ((List T2) × (List T1))
def zdk (out : List T2) (i : Int) (l : List T1) : Option (zda ⊕ zin) :=
 z0s (List.length l) (
 bif ltI i (List.length l : Nat) then
 bif inI i (List.length l) then
 (l[i.toNat]?).bind fun x =>
 (show Option (((List T2) × Int × (List T1) × T1) ⊕ ((List T2) × Int × Int × Bool × Int × Bool × (List T1) × T1)) from
 bif neI x.2.2.1 1 then
 bif neI x.2.2.1 2 then
 bif neI x.2.2.1 7 then
 bif Nat.beq (List.length l) (List.length l) then
 some (.inr (out, i, x.2.2.1, neI x.2.2.1 2, x.2.2.1, neI x.2.2.1 7, l, x))
 else none
 else
 bif Nat.beq (List.length l) (List.length l) then
 some (.inl (out, i, l, x))
 else none
 else
 bif Nat.beq (List.length l) (List.length l) then
 some (.inl (out, i, l, x))
 else none
 else
 bif Nat.beq (List.length l) (List.length l) then
 some (.inl (out, i, l, x))
 else none).bind fun j =>
 Sum.elim (fun y =>
 (show Option (((List T2) × Int × (List T1) × T2)) from
 bif eqI y.2.2.2.2.2.1 7 then
 bif Nat.beq (List.length y.2.2.1) (List.length y.2.2.1) then
 some (y.1, y.2.1, y.2.2.1, (y.2.2.2.1, y.2.2.2.2.2.2.2.1, y.2.2.2.2.2.2.2.2.1, y.2.2.2.2.2.2.1, List.replicate 8 (0 : Int)))
 else none
 else
 bif Nat.beq (List.length y.2.2.1) (List.length y.2.2.1) then
 some (y.1, y.2.1, y.2.2.1, (y.2.2.2.1, y.2.2.2.2.2.2.2.1, y.2.2.2.2.2.2.2.2.1, y.2.2.2.1, List.replicate 8 (0 : Int)))
 else none).bind fun j2 =>
 bif Nat.beq (List.length j2.2.2.1) (List.length j2.2.2.1) then
 (loopC z1c (j2.1, j2.2.1, 0, j2.2.2.1, j2.2.2.2)).bind fun o =>
 (zg1 o.1 o.2.2.2).bind fun r =>
 bif Nat.beq (List.length o.2.2.1) (List.length o.2.2.1) then
 some (.inl (r, W64 (o.2.1 + 1), o.2.2.1))
 else none
 else none) (fun y2 =>
 bif Nat.beq (List.length y2.2.2.2.2.2.2.1) (List.length y2.2.2.2.2.2.2.1) then
 some (.inl (y2.1, W64 (y2.2.1 + 1), y2.2.2.2.2.2.2.1))
 else none) j
 else none
 else
 some (.inr (out, l)))
def z3d (s : zda) : Option (zda ⊕ zin) := zdk s.1 s.2.1 s.2.2
theorem zry : SoundD Try.prog (.loop (subC (bodyC Try.f29) [1, 1, 0, 1, 0, 0])) (loopD z6w.xe z6p (loopC z3d)) :=
 z0w (S := z6w.xe) (X := z6p) zk9 (h := (.two .no (.two (.two .no (.join (fun _ => z8w) .no (.two .no (.join (fun _ => z6z) .no (.two (.two .no (.over (loopD z1w.xe z1u (loopC z1c)))) .no))))) .no))) (z0p [.xs (fun _ => z8w), .xs (fun _ => z6z), .den (.loop (subC (bodyC Try.f29) [1, 1, 0, 1, 0, 0, 1, 0, 0, 1, 1, 1, 1, 0, 1, 0, 0])) (loopD z1w.xe z1u (loopC z1c))] (by kernel_rfl) ⟨(z2j zjq), (z2j zhr), zeb, trivial⟩) (z0c z6w) zr1 z3d (fun s => by kernel_rfl)
def zs8 : Shp := ⟨1, 1, [(0, .d c5)], [.row 67 c9]⟩
def zvc : XS := .one .ret zs8.xe
theorem z15y : zvc.OK := XS.one_ok (z0c zs8)
def zkf (l : List T1) : Option (((List T2) × (List T1))) :=
 bif Nat.beq (List.length l) (List.length l) then
 (loopC z3d ([], 0, l)).bind fun o =>
 some (o.1, o.2)
 else none
def zvg : Sig := ⟨29, [.wn 0 c9], [.row 67 c9], 1, zvc⟩
def zu9 (x : (List T1)) : Option (((List T2) × (List T1))) := zkf x
theorem z1bf : FnOK Try.prog zvg zu9 :=
 fn_ok zk9 (h := (.two .no (.two .no (.two (.two .no (.over (loopD z6w.xe z6p (loopC z3d)))) .no)))) Try.func29 (z0p [.den (.loop (subC (bodyC Try.f29) [1, 1, 0, 1, 0, 0])) (loopD z6w.xe z6p (loopC z3d))] (by kernel_rfl) ⟨zry, trivial⟩) (by kernel_rfl) z15y (fun x => by kernel_rfl)
def z1ae : Env := ⟨[(entQ zsz zqi), (entQ zjv zmh), (entQ zqc znu), (entQ z8v z7k), (entQ z11q zy3)], [], []⟩
theorem ziz : EnvsOK Try.prog z1ae := ⟨z0o (z0q z10w) (z0o (z0q z12q) (z0o (z0q ztg) (z0o (z0q z9h) (z0o (z0q z1bq) (z0x _))))), z0u _, z0t _⟩
def z6k : Shp := ⟨89, 1, [(0, .wn 0 c9), (3, .pt 1 r2 []), (5, .d c10), (6, .d (.int .i64)), (7, .pt 2 r12 []), (8, .d (.int .i64)), (22, .wn 0 c9), (23, .d (.int .i64)), (26, .d c0), (27, .d c0), (28, .d .bool), (72, .d .bool)], [.row 67 c9, .var 43 (.d c0), .var 85 (.d c11)]⟩
def z3k : XS := .one .normal z6k.xe
theorem zcs : z3k.OK := XS.one_ok (z0c z6k)
def z9b : Shp := ⟨89, 1, [(0, .wn 0 c9), (3, .pt 1 r2 []), (5, .d c10), (6, .d (.int .i64)), (7, .pt 2 r12 []), (22, .wn 0 c9), (23, .d (.int .i64)), (26, .d c0), (27, .d c0), (28, .d .bool)], [.row 67 c9, .var 43 (.d c0), .var 85 (.d c11)]⟩
def z2c : XS := .one (.exit 2) z9b.xe
theorem zev : z2c.OK := XS.one_ok (z0c z9b)
def z2b : Shp := ⟨89, 1, [(0, .wn 0 c9), (3, .pt 1 r2 []), (5, .d c10), (6, .d (.int .i64)), (7, .pt 2 r12 []), (8, .d (.int .i64)), (22, .wn 0 c9), (23, .d (.int .i64)), (26, .d c0), (27, .d c0), (28, .d .bool)], [.row 67 c9, .var 43 (.d c0), .var 85 (.d c11)]⟩
abbrev z4x := (List T3) × Int × Int × Int × T0 × T0 × Bool × (List T1) × T0 × T3
abbrev z9v := ((List T3) × Int × Int × T0 × T0 × Bool × (List T1) × T0 × T3)
def z4u (out : List T3) (i : Int) (k : Int) (t23 : Int) (t26 : T0) (t27 : T0) (t28 : Bool) (l : List T1) (obj : T0) (v : T3) : Option (z4x ⊕ z9v) :=
 z0s (List.length l) (
 bif ltI k (List.length l : Nat) then
 (show Option (((List T3) × Int × Int × Int × T0 × T0 × Bool × Bool × (List T1) × T0 × T3)) from
 bif inI k (List.length l) then
 (l[k.toNat]?).bind fun x =>
 (zf3 x).bind fun r =>
 bif r then
 bif inI k (List.length l) then
 (l[k.toNat]?).bind fun x2 =>
 bif eqU c0 x2.2.2.2.1 obj then
 bif inI k (List.length l) then
 (l[k.toNat]?).bind fun x3 =>
 (zha x3.2.2.2.2.2.2.2.1 v.1).bind fun r2 =>
 bif Nat.beq (List.length l) (List.length l) then
 bif Nat.beq (List.length l) (List.length l) then
 some (out, i, k, t23, t26, t27, t28, r2, l, obj, v)
 else none
 else none
 else none
 else
 bif Nat.beq (List.length l) (List.length l) then
 bif Nat.beq (List.length l) (List.length l) then
 some (out, i, k, t23, t26, t27, t28, false, l, obj, v)
 else none
 else none
 else none
 else
 bif Nat.beq (List.length l) (List.length l) then
 bif Nat.beq (List.length l) (List.length l) then
 some (out, i, k, t23, t26, t27, t28, false, l, obj, v)
 else none
 else none
 else none).bind fun j =>
 bif j.2.2.2.2.2.2.2.1 then
 bif inI j.2.2.1 (List.length j.2.2.2.2.2.2.2.2.1) then
 (j.2.2.2.2.2.2.2.2.1[j.2.2.1.toNat]?).bind fun x4 =>
 (z9k j.2.2.2.2.2.2.2.2.2.2.2.2 x4.1).bind fun r3 =>
 bif Nat.beq (List.length j.2.2.2.2.2.2.2.2.1) (List.length j.2.2.2.2.2.2.2.2.1) then
 bif Nat.beq (List.length j.2.2.2.2.2.2.2.2.1) (List.length j.2.2.2.2.2.2.2.2.1) then
 some (.inl (j.1, j.2.1, W64 (j.2.2.1 + 1), j.2.2.2.1, j.2.2.2.2.1, j.2.2.2.2.2.1, j.2.2.2.2.2.2.1, j.2.2.2.2.2.2.2.2.1, j.2.2.2.2.2.2.2.2.2.1, (j.2.2.2.2.2.2.2.2.2.2.1, j.2.2.2.2.2.2.2.2.2.2.2.1, r3)))
 else none
 else none
 else none
 else
 bif Nat.beq (List.length j.2.2.2.2.2.2.2.2.1) (List.length j.2.2.2.2.2.2.2.2.1) then
 bif Nat.beq (List.length j.2.2.2.2.2.2.2.2.1) (List.length j.2.2.2.2.2.2.2.2.1) then
 some (.inl (j.1, j.2.1, W64 (j.2.2.1 + 1), j.2.2.2.1, j.2.2.2.2.1, j.2.2.2.2.2.1, j.2.2.2.2.2.2.1, j.2.2.2.2.2.2.2.2.1, j.2.2.2.2.2.2.2.2.2.1, j.2.2.2.2.2.2.2.2.2.2))
 else none
 else none
 else
 bif Nat.beq (List.length l) (List.length l) then
 bif Nat.beq (List.length l) (List.length l) then
 some (.inr (out, i, t23, t26, t27, t28, l, obj, v))
 else none
 else none)
def z1d (s : z4x) : Option (z4x ⊕ z9v) := z4u s.1 s.2.1 s.2.2.1 s.2.2.2.1 s.2.2.2.2.1 s.2.2.2.2.2.1 s.2.2.2.2.2.2.1 s.2.2.2.2.2.2.2.1 s.2.2.2.2.2.2.2.2.1 s.2.2.2.2.2.2.2.2.2
theorem zf6 : SoundD Try.prog (.loop (subC (bodyC Try.f55) [1, 1, 0, 1, 0, 0, 1, 0, 0, 1, 1, 0, 1, 0, 0])) (loopD z2b.xe z2c (loopC z1d)) :=
 z0w (S := z2b.xe) (X := z2c) ziz (h := (.two .no (.two (.join (fun _ => z3k) .no .no) .no))) (z0p [.xs (fun _ => z3k)] (by kernel_rfl) ⟨(z2j zcs), trivial⟩) (z0c z2b) zev z1d (fun s => by kernel_rfl)
def zg3 : Shp := ⟨89, 1, [(5, .d c10)], [.row 67 c9]⟩
def z6j : XS := .one (.exit 0) zg3.xe
theorem zq3 : z6j.OK := XS.one_ok (z0c zg3)
def z6b : Shp := ⟨89, 1, [(0, .wn 0 c9), (3, .pt 1 r2 []), (5, .d c10), (6, .d (.int .i64))], [.row 67 c9, .var 43 (.d c0)]⟩
abbrev zcv := (List T3) × Int × (List T1) × T0
abbrev zhs := ((List T3) × (List T1))
def zcu (out : List T3) (i : Int) (l : List T1) (obj : T0) : Option (zcv ⊕ zhs) :=
 z0s (List.length l) (
 bif ltI i (List.length l : Nat) then
 bif inI i (List.length l) then
 (l[i.toNat]?).bind fun x =>
 (zf3 x).bind fun r =>
 bif !r then
 bif Nat.beq (List.length l) (List.length l) then
 some (.inl (out, W64 (i + 1), l, obj))
 else none
 else
 bif inI i (List.length l) then
 (l[i.toNat]?).bind fun x2 =>
 bif !(eqU c0 x2.2.2.2.1 obj) then
 bif Nat.beq (List.length l) (List.length l) then
 some (.inl (out, W64 (i + 1), l, obj))
 else none
 else
 bif inI i (List.length l) then
 (l[i.toNat]?).bind fun x3 =>
 bif inI i (List.length l) then
 (l[i.toNat]?).bind fun x4 =>
 winK l 0 (List.length l) fun w =>
 (z11v w x4.1).bind fun r2 =>
 bif Nat.beq (List.length l) (List.length l) then
 bif Nat.beq (List.length l) (List.length l) then
 (loopC z1d (out, i, 0, i, x2.2.2.2.1, obj, !(eqU c0 x2.2.2.2.1 obj), l, obj, (x3.1, r2, List.replicate 8 (0 : Int)))).bind fun o =>
 (zui o.1 [] o.2.2.2.2.2.2.2.2).bind fun r3 =>
 bif Nat.beq (List.length o.2.2.2.2.2.2.1) (List.length o.2.2.2.2.2.2.1) then
 some (.inl (r3.1, W64 (o.2.1 + 1), o.2.2.2.2.2.2.1, o.2.2.2.2.2.2.2.1))
 else none
 else none
 else none
 else none
 else none
 else none
 else none
 else
 some (.inr (out, l)))
def z2z (s : zcv) : Option (zcv ⊕ zhs) := zcu s.1 s.2.1 s.2.2.1 s.2.2.2
theorem zr0 : SoundD Try.prog (.loop (subC (bodyC Try.f55) [1, 1, 0, 1, 0, 0])) (loopD z6b.xe z6j (loopC z2z)) :=
 z0w (S := z6b.xe) (X := z6j) ziz (h := (.two .no (.two (.two .no (.two .no (.two (.two .no (.over (loopD z2b.xe z2c (loopC z1d)))) .no))) .no))) (z0p [.den (.loop (subC (bodyC Try.f55) [1, 1, 0, 1, 0, 0, 1, 0, 0, 1, 1, 0, 1, 0, 0])) (loopD z2b.xe z2c (loopC z1d))] (by kernel_rfl) ⟨zf6, trivial⟩) (z0c z6b) zq3 z2z (fun s => by kernel_rfl)
def zqz : Shp := ⟨1, 1, [(0, .d c10)], [.row 67 c9]⟩
def ztp : XS := .one .ret zqz.xe
theorem z15k : ztp.OK := XS.one_ok (z0c zqz)
def zj8 (obj : T0) (l : List T1) : Option (((List T3) × (List T1))) :=
 bif Nat.beq (List.length l) (List.length l) then
 (loopC z2z ([], 0, l, obj)).bind fun o =>
 some (o.1, o.2)
 else none
def zuh : Sig := ⟨55, [.wn 0 c9, .d c0], [.row 67 c9], 1, ztp⟩
def zs3 (x : T0 × (List T1)) : Option (((List T3) × (List T1))) := zj8 x.1 x.2
theorem z19n : FnOK Try.prog zuh zs3 :=
 fn_ok ziz (h := (.two .no (.two .no (.two (.two .no (.over (loopD z6b.xe z6j (loopC z2z)))) .no)))) Try.func55 (z0p [.den (.loop (subC (bodyC Try.f55) [1, 1, 0, 1, 0, 0])) (loopD z6b.xe z6j (loopC z2z))] (by kernel_rfl) ⟨zr0, trivial⟩) (by kernel_rfl) z15k (fun x => by kernel_rfl)
def z1fv : Env := ⟨[(entQ zbh za7), (entQ z8v z7k), (entQ zld zjn)], [], [(entD zuh zs3)]⟩
theorem ztu : EnvsOK Try.prog z1fv := ⟨z0o (z0q zc2) (z0o (z0q z9h) (z0o (z0q zow) (z0x _))), z0u _, z1kr (z1q0 z19n) (z0t _)⟩
def zd5 : Shp := ⟨85, 1, [(0, .wn 0 c9), (3, .pt 1 r8 []), (4, .pt 2 r13 []), (5, .pt 3 r13 []), (6, .d (.int .i64))], [.row 67 c9, .var 67 (.d c9), .var 49 (.d c14), .var 49 (.d c14)]⟩
def z9o : XS := .one .normal zd5.xe
theorem zk7 : z9o.OK := XS.one_ok (z0c zd5)
def zcb : Shp := ⟨85, 1, [(0, .wn 0 c9), (3, .pt 1 r8 []), (4, .pt 2 r13 []), (5, .pt 3 r13 []), (6, .d (.int .i64)), (50, .d .bool)], [.row 67 c9, .var 67 (.d c9), .var 49 (.d c14), .var 49 (.d c14)]⟩
def z8k : XS := .one .normal zcb.xe
theorem zje : z8k.OK := XS.one_ok (z0c zcb)
def zhu : Shp := ⟨85, 1, [(4, .pt 1 r13 []), (5, .pt 2 r13 [])], [.row 67 c9, .var 49 (.d c14), .var 49 (.d c14)]⟩
def z7j : XS := .one (.exit 0) zhu.xe
theorem zrx : z7j.OK := XS.one_ok (z0c zhu)
def z7i : Shp := ⟨85, 1, [(0, .wn 0 c9), (3, .pt 1 r8 []), (4, .pt 2 r13 []), (5, .pt 3 r13 []), (6, .d (.int .i64))], [.row 67 c9, .var 67 (.d c9), .var 49 (.d c14), .var 49 (.d c14)]⟩
abbrev ze9 := Int × (List T1) × T1 × T4 × T4
abbrev zjz := ((List T1) × T4 × T4)
def ze7 (i : Int) (l : List T1) (t3 : T1) (t4 : T4) (o : T4) : Option (ze9 ⊕ zjz) :=
 z0s (List.length l) (
 bif ltI i (List.length l : Nat) then
 bif inI i (List.length l) then
 (l[i.toNat]?).bind fun x =>
 bif !(eqU c0 x.2.2.2.1 t3.1) then
 bif Nat.beq (List.length l) (List.length l) then
 some (.inl (W64 (i + 1), l, t3, t4, o))
 else none
 else
 (show Option ((Int × (List T1) × T1 × T4 × T4)) from
 (show Option ((Int × Bool × (List T1) × T1 × T4 × T4)) from
 bif inI i (List.length l) then
 (l[i.toNat]?).bind fun x2 =>
 bif eqI x2.2.2.1 7 then
 bif inI i (List.length l) then
 (l[i.toNat]?).bind fun x3 =>
 (zax o.2.2.1 x3.1).bind fun r =>
 bif Nat.beq (List.length l) (List.length l) then
 some (i, r, l, t3, t4, o)
 else none
 else none
 else
 bif Nat.beq (List.length l) (List.length l) then
 some (i, false, l, t3, t4, o)
 else none
 else none).bind fun j =>
 bif j.2.1 then
 bif inI j.1 (List.length j.2.2.1) then
 (j.2.2.1[j.1.toNat]?).bind fun x4 =>
 bif inI j.1 (List.length j.2.2.1) then
 (j.2.2.1[j.1.toNat]?).bind fun x5 =>
 bif Nat.beq (List.length j.2.2.1) (List.length j.2.2.1) then
 some (j.1, j.2.2.1, j.2.2.2.1, j.2.2.2.2.1, ((j.2.2.2.2.2.1, j.2.2.2.2.2.2.1, x4.1, j.2.2.2.2.2.2.2.2).1, (j.2.2.2.2.2.1, j.2.2.2.2.2.2.1, x4.1, j.2.2.2.2.2.2.2.2).2.1, (j.2.2.2.2.2.1, j.2.2.2.2.2.2.1, x4.1, j.2.2.2.2.2.2.2.2).2.2.1, x5.2.2.2.2.2.1, (j.2.2.2.2.2.1, j.2.2.2.2.2.2.1, x4.1, j.2.2.2.2.2.2.2.2).2.2.2.2))
 else none
 else none
 else none
 else
 bif Nat.beq (List.length j.2.2.1) (List.length j.2.2.1) then
 some (j.1, j.2.2.1, j.2.2.2.1, j.2.2.2.2.1, j.2.2.2.2.2)
 else none).bind fun j2 =>
 bif inI j2.1 (List.length j2.2.1) then
 (j2.2.1[j2.1.toNat]?).bind fun x6 =>
 bif eqI x6.2.2.1 6 then
 bif inI j2.1 (List.length j2.2.1) then
 (j2.2.1[j2.1.toNat]?).bind fun x7 =>
 bif inI j2.1 (List.length j2.2.1) then
 (j2.2.1[j2.1.toNat]?).bind fun x8 =>
 (z9k x7.2.1 x8.1).bind fun r2 =>
 (zj4 j2.2.2.2.2.2.2.2.2.1 r2).bind fun r3 =>
 bif Nat.beq (List.length j2.2.1) (List.length j2.2.1) then
 some (.inl (W64 (j2.1 + 1), j2.2.1, j2.2.2.1, j2.2.2.2.1, (j2.2.2.2.2.1, j2.2.2.2.2.2.1, j2.2.2.2.2.2.2.1, j2.2.2.2.2.2.2.2.1, r3, j2.2.2.2.2.2.2.2.2.2)))
 else none
 else none
 else none
 else
 bif Nat.beq (List.length j2.2.1) (List.length j2.2.1) then
 some (.inl (W64 (j2.1 + 1), j2.2.1, j2.2.2.1, j2.2.2.2.1, j2.2.2.2.2))
 else none
 else none
 else none
 else
 some (.inr (l, t4, o)))
def z3n (s : ze9) : Option (ze9 ⊕ zjz) := ze7 s.1 s.2.1 s.2.2.1 s.2.2.2.1 s.2.2.2.2
theorem zst : SoundD Try.prog (.loop (subC (bodyC Try.f30) [1, 1, 0, 1, 0, 0])) (loopD z7i.xe z7j (loopC z3n)) :=
 z0w (S := z7i.xe) (X := z7j) ztu (h := (.two .no (.two (.two .no (.join (fun _ => z9o) (.join (fun _ => z8k) .no .no) .no)) .no))) (z0p [.xs (fun _ => z9o), .xs (fun _ => z8k)] (by kernel_rfl) ⟨(z2j zk7), (z2j zje), trivial⟩) (z0c z7i) zrx z3n (fun s => by kernel_rfl)
def ztl : Shp := ⟨1, 1, [(0, .d c14)], [.row 67 c9]⟩
def zy1 : XS := .one .ret ztl.xe
theorem z19c : zy1.OK := XS.one_ok (z0c ztl)
def zms (t1 : T1) (l : List T1) : Option ((T4 × (List T1))) :=
 bif Nat.beq (List.length l) (List.length l) then
 (zj8 t1.1 l).bind fun r =>
 bif Nat.beq (List.length l) (List.length r.2) then
 (loopC z3n (0, r.2, t1, ((0, 0), false, (0, 0), [], List.replicate 8 (0 : Int), []), (t1.1, eqI t1.2.2.1 2, t1.1, t1.2.2.2.2.2.1, List.replicate 8 (0 : Int), r.1))).bind fun o =>
 some (o.2.2, o.1)
 else none
 else none
def zz0 : Sig := ⟨30, [.wn 0 c9, .d c9], [.row 67 c9], 1, zy1⟩
def zvq (x : T1 × (List T1)) : Option ((T4 × (List T1))) := zms x.1 x.2
theorem z1df : FnOK Try.prog zz0 zvq :=
 fn_ok ztu (h := (.two .no (.two .no (.two (.two .no (.over (loopD z7i.xe z7j (loopC z3n)))) .no)))) Try.func30 (z0p [.den (.loop (subC (bodyC Try.f30) [1, 1, 0, 1, 0, 0])) (loopD z7i.xe z7j (loopC z3n))] (by kernel_rfl) ⟨zst, trivial⟩) (by kernel_rfl) z19c (fun x => by kernel_rfl)
def z1hs : Env := ⟨[(entQ zv7 zsi), (entQ zbh za7), (entQ zo5 zlt), (entQ z8v z7k)], [(entP zvg zu9), (entP zz0 zvq)], []⟩
theorem znc : EnvsOK Try.prog z1hs := ⟨z0o (z0q z14d) (z0o (z0q zc2) (z0o (z0q zrr) (z0o (z0q z9h) (z0x _)))), zdg (zi2 z1bf) (zdg (zi2 z1df) (z0u _)), z0t _⟩
def zcg : Shp := ⟨108, 1, [(0, .wn 0 c9), (2, .pt 1 r15 []), (3, .pt 2 r15 []), (4, .pt 3 (.one (.arr 8 .leaf)) []), (5, .d (.int .i64)), (6, .pt 4 r8 [])], [.row 67 c9, .var 33 (.ag [.d c1, .wn 5 c14, .wn 6 c6, .d c16, .d (.arr 8 .bool)]), .var 33 (.ag [.d c1, .wn 7 c14, .d c5, .d c16, .d (.arr 8 .bool)]), .var 25 (.d c1), .var 67 (.d c9), .row 49 c14, .row 45 c6, .row 49 c14]⟩
def z9e : XS := .one .normal zcg.xe
theorem zjw : z9e.OK := XS.one_ok (z0c zcg)
def zbq : Shp := ⟨108, 1, [(0, .wn 0 c9), (2, .pt 1 r15 []), (3, .pt 2 r15 []), (4, .pt 3 (.one (.arr 8 .leaf)) []), (5, .d (.int .i64)), (6, .pt 4 r8 []), (33, .d .bool)], [.row 67 c9, .var 33 (.ag [.d c1, .wn 5 c14, .wn 6 c6, .d c16, .d (.arr 8 .bool)]), .var 33 (.ag [.d c1, .wn 7 c14, .d c5, .d c16, .d (.arr 8 .bool)]), .var 25 (.d c1), .var 67 (.d c9), .row 49 c14, .row 45 c6, .row 49 c14]⟩
def z7y : XS := .one .normal zbq.xe
theorem zid : z7y.OK := XS.one_ok (z0c zbq)
def z7c : Shp := ⟨108, 1, [(0, .wn 0 c9), (2, .pt 1 r15 []), (3, .pt 2 r15 []), (4, .pt 3 (.one (.arr 8 .leaf)) []), (5, .d (.int .i64)), (6, .pt 4 r8 []), (7, .pt 5 r13 []), (8, .d (.int .i64))], [.row 67 c9, .var 33 (.ag [.d c1, .wn 6 c14, .wn 7 c6, .d c16, .d (.arr 8 .bool)]), .var 33 (.ag [.d c1, .wn 8 c14, .d c5, .d c16, .d (.arr 8 .bool)]), .var 25 (.d c1), .var 67 (.d c9), .var 49 (.d c14), .row 49 c14, .row 45 c6, .row 49 c14]⟩
def z1m : XS := .one (.exit 2) z7c.xe
theorem zd9 : z1m.OK := XS.one_ok (z0c z7c)
def z1n : Shp := ⟨108, 1, [(0, .wn 0 c9), (2, .pt 1 r15 []), (3, .pt 2 r15 []), (4, .pt 3 (.one (.arr 8 .leaf)) []), (5, .d (.int .i64)), (6, .pt 4 r8 []), (7, .pt 5 r13 []), (8, .d (.int .i64))], [.row 67 c9, .var 33 (.ag [.d c1, .wn 6 c14, .wn 7 c6, .d c16, .d (.arr 8 .bool)]), .var 33 (.ag [.d c1, .wn 8 c14, .d c5, .d c16, .d (.arr 8 .bool)]), .var 25 (.d c1), .var 67 (.d c9), .var 49 (.d c14), .row 49 c14, .row 45 c6, .row 49 c14]⟩
abbrev z3q := Int × Int × (List T1) × (List Int) × (List Int) × (List Bool) × (List Int) × (List T2) × (List Int) × (List Bool) × (List Int) × T1 × T4 × (List T4) × (List T2) × (List T4)
abbrev z7n := (Int × Int × (List T1) × (List Int) × (List Int) × (List Bool) × (List Int) × (List T2) × (List Int) × (List Bool) × (List Int) × T1 × T4 × (List T4) × (List T2) × (List T4))
def z3t (i : Int) (k : Int) (l : List T1) (t2 : List Int) (t22 : List Int) (t23 : List Bool) (t3 : List Int) (t32 : List T2) (t33 : List Int) (t34 : List Bool) (latest : List Int) (t6 : T1) (o : T4) (t24 : List T4) (t25 : List T2) (t35 : List T4) : Option (z3q ⊕ z7n) :=
 bif ltI 0 k then
 bif inI (W64 (k - 1)) (List.length t35) then
 (t35[(W64 (k - 1)).toNat]?).bind fun x =>
 (zax o.1 x.1).bind fun r =>
 bif r then
 bif Nat.beq (List.length l) (List.length l) then
 bif Nat.beq (List.length t24) (List.length t24) then
 bif Nat.beq (List.length t25) (List.length t25) then
 bif Nat.beq (List.length t35) (List.length t35) then
 some (.inl (i, W64 (k - 1), l, t2, t22, t23, t3, t32, t33, t34, latest, t6, o, t24, t25, t35))
 else none
 else none
 else none
 else none
 else
 bif Nat.beq (List.length l) (List.length l) then
 bif Nat.beq (List.length t24) (List.length t24) then
 bif Nat.beq (List.length t25) (List.length t25) then
 bif Nat.beq (List.length t35) (List.length t35) then
 some (.inr (i, k, l, t2, t22, t23, t3, t32, t33, t34, latest, t6, o, t24, t25, t35))
 else none
 else none
 else none
 else none
 else none
 else
 bif Nat.beq (List.length l) (List.length l) then
 bif Nat.beq (List.length t24) (List.length t24) then
 bif Nat.beq (List.length t25) (List.length t25) then
 bif Nat.beq (List.length t35) (List.length t35) then
 some (.inr (i, k, l, t2, t22, t23, t3, t32, t33, t34, latest, t6, o, t24, t25, t35))
 else none
 else none
 else none
 else none
def z1a (s : z3q) : Option (z3q ⊕ z7n) := z3t s.1 s.2.1 s.2.2.1 s.2.2.2.1 s.2.2.2.2.1 s.2.2.2.2.2.1 s.2.2.2.2.2.2.1 s.2.2.2.2.2.2.2.1 s.2.2.2.2.2.2.2.2.1 s.2.2.2.2.2.2.2.2.2.1 s.2.2.2.2.2.2.2.2.2.2.1 s.2.2.2.2.2.2.2.2.2.2.2.1 s.2.2.2.2.2.2.2.2.2.2.2.2.1 s.2.2.2.2.2.2.2.2.2.2.2.2.2.1 s.2.2.2.2.2.2.2.2.2.2.2.2.2.2.1 s.2.2.2.2.2.2.2.2.2.2.2.2.2.2.2
theorem zds : SoundD Try.prog (.loop (subC (bodyC Try.f10) [1, 1, 1, 0, 1, 0, 0, 1, 0, 0, 1, 0, 1, 0, 1, 1, 0, 0, 0])) (loopD z1n.xe z1m (loopC z1a)) :=
 z0w (S := z1n.xe) (X := z1m) znc (h := .no) (z0p [] (by kernel_rfl) trivial) (z0c z1n) zd9 z1a (fun s => by kernel_rfl)
def zbv : Shp := ⟨108, 1, [(0, .wn 0 c9), (2, .pt 1 r15 []), (3, .pt 2 r15 []), (4, .pt 3 (.one (.arr 8 .leaf)) []), (5, .d (.int .i64)), (6, .pt 4 r8 [])], [.row 67 c9, .var 33 (.ag [.d c1, .wn 5 c14, .wn 6 c6, .d c16, .d (.arr 8 .bool)]), .var 33 (.ag [.d c1, .wn 7 c14, .d c5, .d c16, .d (.arr 8 .bool)]), .var 25 (.d c1), .var 67 (.d c9), .row 49 c14, .row 45 c6, .row 49 c14]⟩
def z7v : XS := .one .normal zbv.xe
theorem zig : z7v.OK := XS.one_ok (z0c zbv)
def zbi : Shp := ⟨108, 1, [(0, .wn 0 c9), (2, .pt 1 r15 []), (3, .pt 2 r15 []), (4, .pt 3 (.one (.arr 8 .leaf)) []), (5, .d (.int .i64)), (6, .pt 4 r8 []), (85, .d .bool)], [.row 67 c9, .var 33 (.ag [.d c1, .wn 5 c14, .wn 6 c6, .d c16, .d (.arr 8 .bool)]), .var 33 (.ag [.d c1, .wn 7 c14, .d c5, .d c16, .d (.arr 8 .bool)]), .var 25 (.d c1), .var 67 (.d c9), .row 49 c14, .row 45 c6, .row 49 c14]⟩
def z7a : XS := .one .normal zbi.xe
theorem zhp : z7a.OK := XS.one_ok (z0c zbi)
def zhn : Shp := ⟨108, 1, [(2, .pt 1 r15 []), (3, .pt 2 r15 [])], [.row 67 c9, .var 33 (.ag [.d c1, .wn 3 c14, .wn 4 c6, .d c16, .d (.arr 8 .bool)]), .var 33 (.ag [.d c1, .wn 5 c14, .d c5, .d c16, .d (.arr 8 .bool)]), .row 49 c14, .row 45 c6, .row 49 c14]⟩
def z6o : XS := .one (.exit 0) zhn.xe
theorem zrd : z6o.OK := XS.one_ok (z0c zhn)
def z6v : Shp := ⟨108, 1, [(0, .wn 0 c9), (2, .pt 1 r15 []), (3, .pt 2 r15 []), (4, .pt 3 (.one (.arr 8 .leaf)) []), (5, .d (.int .i64))], [.row 67 c9, .var 33 (.ag [.d c1, .wn 4 c14, .wn 5 c6, .d c16, .d (.arr 8 .bool)]), .var 33 (.ag [.d c1, .wn 6 c14, .d c5, .d c16, .d (.arr 8 .bool)]), .var 25 (.d c1), .row 49 c14, .row 45 c6, .row 49 c14]⟩
abbrev zdl := Int × (List T1) × (List Int) × (List Int) × (List Bool) × (List Int) × (List T2) × (List Int) × (List Bool) × (List Int) × (List T4) × (List T2) × (List T4)
abbrev zil := ((List T1) × (List Int) × (List Int) × (List Bool) × (List Int) × (List T2) × (List Int) × (List Bool) × (List T4) × (List T2) × (List T4))
def zdq (i : Int) (l : List T1) (t2 : List Int) (t22 : List Int) (t23 : List Bool) (t3 : List Int) (t32 : List T2) (t33 : List Int) (t34 : List Bool) (latest : List Int) (t24 : List T4) (t25 : List T2) (t35 : List T4) : Option (zdl ⊕ zil) :=
 z0s (List.length l) (
 bif ltI i (List.length l : Nat) then
 bif inI i (List.length l) then
 (l[i.toNat]?).bind fun x =>
 (show Option ((Int × (List T1) × (List Int) × (List Int) × (List Bool) × (List Int) × (List T2) × (List Int) × (List Bool) × (List Int) × T1 × (List T4) × (List T2) × (List T4))) from
 (show Option ((Int × Bool × (List T1) × (List Int) × (List Int) × (List Bool) × (List Int) × (List T2) × (List Int) × (List Bool) × (List Int) × T1 × (List T4) × (List T2) × (List T4))) from
 bif eqI x.2.2.1 1 then
 bif Nat.beq (List.length l) (List.length l) then
 bif Nat.beq (List.length t24) (List.length t24) then
 bif Nat.beq (List.length t25) (List.length t25) then
 bif Nat.beq (List.length t35) (List.length t35) then
 some (i, true, l, t2, t22, t23, t3, t32, t33, t34, latest, x, t24, t25, t35)
 else none
 else none
 else none
 else none
 else
 bif Nat.beq (List.length l) (List.length l) then
 bif Nat.beq (List.length t24) (List.length t24) then
 bif Nat.beq (List.length t25) (List.length t25) then
 bif Nat.beq (List.length t35) (List.length t35) then
 some (i, eqI x.2.2.1 2, l, t2, t22, t23, t3, t32, t33, t34, latest, x, t24, t25, t35)
 else none
 else none
 else none
 else none).bind fun j =>
 bif j.2.1 then
 bif Nat.beq (List.length j.2.2.1) (List.length j.2.2.1) then
 (zms j.2.2.2.2.2.2.2.2.2.2.2.1 j.2.2.1).bind fun r =>
 z0s (List.length j.2.2.2.2.2.2.2.2.2.2.2.2.2.2) (
 bif Nat.beq (List.length j.2.2.1) (List.length r.2) then
 bif Nat.beq (List.length j.2.2.2.2.2.2.2.2.2.2.2.2.1) (List.length j.2.2.2.2.2.2.2.2.2.2.2.2.1) then
 bif Nat.beq (List.length j.2.2.2.2.2.2.2.2.2.2.2.2.2.1) (List.length j.2.2.2.2.2.2.2.2.2.2.2.2.2.1) then
 bif Nat.beq (List.length j.2.2.2.2.2.2.2.2.2.2.2.2.2.2) (List.length j.2.2.2.2.2.2.2.2.2.2.2.2.2.2) then
 (loopC z1a (j.1, (List.length j.2.2.2.2.2.2.2.2.2.2.2.2.2.2 : Nat), r.2, j.2.2.2.1, j.2.2.2.2.1, j.2.2.2.2.2.1, j.2.2.2.2.2.2.1, j.2.2.2.2.2.2.2.1, j.2.2.2.2.2.2.2.2.1, j.2.2.2.2.2.2.2.2.2.1, j.2.2.2.2.2.2.2.2.2.2.1, j.2.2.2.2.2.2.2.2.2.2.2.1, r.1, j.2.2.2.2.2.2.2.2.2.2.2.2.1, j.2.2.2.2.2.2.2.2.2.2.2.2.2.1, j.2.2.2.2.2.2.2.2.2.2.2.2.2.2)).bind fun o =>
 bif subOk o.2.1 (List.length o.2.2.2.2.2.2.2.2.2.2.2.2.2.2.2 : Nat) (List.length o.2.2.2.2.2.2.2.2.2.2.2.2.2.2.2) then
 winK o.2.2.2.2.2.2.2.2.2.2.2.2.2.2.2 o.2.1.toNat ((List.length o.2.2.2.2.2.2.2.2.2.2.2.2.2.2.2) - o.2.1.toNat) fun w =>
 appG (List.length ([o.2.2.2.2.2.2.2.2.2.2.2.2.1] : List T4)) (List.length w) 112 fun _ =>
 bif subOk 0 o.2.1 (List.length o.2.2.2.2.2.2.2.2.2.2.2.2.2.2.2) then
 winK o.2.2.2.2.2.2.2.2.2.2.2.2.2.2.2 0 o.2.1.toNat fun w2 =>
 appG (List.length ([] : List T4)) (List.length w2) 112 fun _ =>
 bif Nat.beq (List.length w2) (List.length w2) then
 appG (List.length w2) (List.length (([o.2.2.2.2.2.2.2.2.2.2.2.2.1] : List T4) ++ w)) 112 fun _ =>
 bif Nat.beq (List.length o.2.2.1) (List.length o.2.2.1) then
 bif Nat.beq (List.length o.2.2.2.2.2.2.2.2.2.2.2.2.2.1) (List.length o.2.2.2.2.2.2.2.2.2.2.2.2.2.1) then
 bif Nat.beq (List.length o.2.2.2.2.2.2.2.2.2.2.2.2.2.2.1) (List.length o.2.2.2.2.2.2.2.2.2.2.2.2.2.2.1) then
 bif Nat.beq (List.length (w2 ++ (([o.2.2.2.2.2.2.2.2.2.2.2.2.1] : List T4) ++ w))) (List.length (w2 ++ (([o.2.2.2.2.2.2.2.2.2.2.2.2.1] : List T4) ++ w))) then
 some (o.1, o.2.2.1, o.2.2.2.1, o.2.2.2.2.1, o.2.2.2.2.2.1, o.2.2.2.2.2.2.1, o.2.2.2.2.2.2.2.1, o.2.2.2.2.2.2.2.2.1, o.2.2.2.2.2.2.2.2.2.1, o.2.2.2.2.2.2.2.2.2.2.1, o.2.2.2.2.2.2.2.2.2.2.2.1, o.2.2.2.2.2.2.2.2.2.2.2.2.2.1, o.2.2.2.2.2.2.2.2.2.2.2.2.2.2.1, w2 ++ (([o.2.2.2.2.2.2.2.2.2.2.2.2.1] : List T4) ++ w))
 else none
 else none
 else none
 else none
 else none
 else none
 else none
 else none
 else none
 else none
 else none)
 else none
 else
 bif Nat.beq (List.length j.2.2.1) (List.length j.2.2.1) then
 bif Nat.beq (List.length j.2.2.2.2.2.2.2.2.2.2.2.2.1) (List.length j.2.2.2.2.2.2.2.2.2.2.2.2.1) then
 bif Nat.beq (List.length j.2.2.2.2.2.2.2.2.2.2.2.2.2.1) (List.length j.2.2.2.2.2.2.2.2.2.2.2.2.2.1) then
 bif Nat.beq (List.length j.2.2.2.2.2.2.2.2.2.2.2.2.2.2) (List.length j.2.2.2.2.2.2.2.2.2.2.2.2.2.2) then
 some (j.1, j.2.2.1, j.2.2.2.1, j.2.2.2.2.1, j.2.2.2.2.2.1, j.2.2.2.2.2.2.1, j.2.2.2.2.2.2.2.1, j.2.2.2.2.2.2.2.2.1, j.2.2.2.2.2.2.2.2.2.1, j.2.2.2.2.2.2.2.2.2.2.1, j.2.2.2.2.2.2.2.2.2.2.2.1, j.2.2.2.2.2.2.2.2.2.2.2.2.1, j.2.2.2.2.2.2.2.2.2.2.2.2.2.1, j.2.2.2.2.2.2.2.2.2.2.2.2.2.2)
 else none
 else none
 else none
 else none).bind fun j2 =>
 (show Option ((Int × (List T1) × (List Int) × (List Int) × (List Bool) × (List Int) × (List T2) × (List Int) × (List Bool) × (List Int) × T1 × (List T4) × (List T2) × (List T4))) from
 (show Option ((Int × Bool × (List T1) × (List Int) × (List Int) × (List Bool) × (List Int) × (List T2) × (List Int) × (List Bool) × (List Int) × T1 × (List T4) × (List T2) × (List T4))) from
 bif eqI j2.2.2.2.2.2.2.2.2.2.2.1.2.2.1 8 then
 (zm6 j2.2.2.2.2.2.2.2.2.2.1 j2.2.2.2.2.2.2.2.2.2.2.1.1.1).bind fun r2 =>
 bif Nat.beq (List.length j2.2.1) (List.length j2.2.1) then
 bif Nat.beq (List.length j2.2.2.2.2.2.2.2.2.2.2.2.1) (List.length j2.2.2.2.2.2.2.2.2.2.2.2.1) then
 bif Nat.beq (List.length j2.2.2.2.2.2.2.2.2.2.2.2.2.1) (List.length j2.2.2.2.2.2.2.2.2.2.2.2.2.1) then
 bif Nat.beq (List.length j2.2.2.2.2.2.2.2.2.2.2.2.2.2) (List.length j2.2.2.2.2.2.2.2.2.2.2.2.2.2) then
 some (j2.1, ltI r2 j2.2.2.2.2.2.2.2.2.2.2.1.1.2, j2.2.1, j2.2.2.1, j2.2.2.2.1, j2.2.2.2.2.1, j2.2.2.2.2.2.1, j2.2.2.2.2.2.2.1, j2.2.2.2.2.2.2.2.1, j2.2.2.2.2.2.2.2.2.1, j2.2.2.2.2.2.2.2.2.2.1, j2.2.2.2.2.2.2.2.2.2.2.1, j2.2.2.2.2.2.2.2.2.2.2.2.1, j2.2.2.2.2.2.2.2.2.2.2.2.2.1, j2.2.2.2.2.2.2.2.2.2.2.2.2.2)
 else none
 else none
 else none
 else none
 else
 bif Nat.beq (List.length j2.2.1) (List.length j2.2.1) then
 bif Nat.beq (List.length j2.2.2.2.2.2.2.2.2.2.2.2.1) (List.length j2.2.2.2.2.2.2.2.2.2.2.2.1) then
 bif Nat.beq (List.length j2.2.2.2.2.2.2.2.2.2.2.2.2.1) (List.length j2.2.2.2.2.2.2.2.2.2.2.2.2.1) then
 bif Nat.beq (List.length j2.2.2.2.2.2.2.2.2.2.2.2.2.2) (List.length j2.2.2.2.2.2.2.2.2.2.2.2.2.2) then
 some (j2.1, false, j2.2.1, j2.2.2.1, j2.2.2.2.1, j2.2.2.2.2.1, j2.2.2.2.2.2.1, j2.2.2.2.2.2.2.1, j2.2.2.2.2.2.2.2.1, j2.2.2.2.2.2.2.2.2.1, j2.2.2.2.2.2.2.2.2.2.1, j2.2.2.2.2.2.2.2.2.2.2.1, j2.2.2.2.2.2.2.2.2.2.2.2.1, j2.2.2.2.2.2.2.2.2.2.2.2.2.1, j2.2.2.2.2.2.2.2.2.2.2.2.2.2)
 else none
 else none
 else none
 else none).bind fun j3 =>
 bif j3.2.1 then
 (z9k j3.2.2.2.2.2.2.2.2.2.2.1 j3.2.2.2.2.2.2.2.2.2.2.2.1.1).bind fun r3 =>
 bif inI (W64 (j3.2.2.2.2.2.2.2.2.2.2.2.1.1.1 - 1)) 8 then
 (j3.2.2.2.2.2.2.2.2.1[(W64 (j3.2.2.2.2.2.2.2.2.2.2.2.1.1.1 - 1)).toNat]?).bind fun _x =>
 bif Nat.beq (List.length j3.2.2.1) (List.length j3.2.2.1) then
 bif Nat.beq (List.length j3.2.2.2.2.2.2.2.2.2.2.2.2.1) (List.length j3.2.2.2.2.2.2.2.2.2.2.2.2.1) then
 bif Nat.beq (List.length j3.2.2.2.2.2.2.2.2.2.2.2.2.2.1) (List.length j3.2.2.2.2.2.2.2.2.2.2.2.2.2.1) then
 bif Nat.beq (List.length j3.2.2.2.2.2.2.2.2.2.2.2.2.2.2) (List.length j3.2.2.2.2.2.2.2.2.2.2.2.2.2.2) then
 some ((j3.1, j3.2.2.1, j3.2.2.2.1, j3.2.2.2.2.1, j3.2.2.2.2.2.1, j3.2.2.2.2.2.2.1, j3.2.2.2.2.2.2.2.1, j3.2.2.2.2.2.2.2.2.1.set ((W64 (j3.2.2.2.2.2.2.2.2.2.2.2.1.1.1 - 1)).toNat) j3.2.2.2.2.2.2.2.2.2.2.2.1.2.2.2.2.2.2.2.2.2.2, j3.2.2.2.2.2.2.2.2.2.1, r3, j3.2.2.2.2.2.2.2.2.2.2.2.1, j3.2.2.2.2.2.2.2.2.2.2.2.2.1, j3.2.2.2.2.2.2.2.2.2.2.2.2.2.1, j3.2.2.2.2.2.2.2.2.2.2.2.2.2.2))
 else none
 else none
 else none
 else none
 else none
 else
 bif Nat.beq (List.length j3.2.2.1) (List.length j3.2.2.1) then
 bif Nat.beq (List.length j3.2.2.2.2.2.2.2.2.2.2.2.2.1) (List.length j3.2.2.2.2.2.2.2.2.2.2.2.2.1) then
 bif Nat.beq (List.length j3.2.2.2.2.2.2.2.2.2.2.2.2.2.1) (List.length j3.2.2.2.2.2.2.2.2.2.2.2.2.2.1) then
 bif Nat.beq (List.length j3.2.2.2.2.2.2.2.2.2.2.2.2.2.2) (List.length j3.2.2.2.2.2.2.2.2.2.2.2.2.2.2) then
 some (j3.1, j3.2.2.1, j3.2.2.2.1, j3.2.2.2.2.1, j3.2.2.2.2.2.1, j3.2.2.2.2.2.2.1, j3.2.2.2.2.2.2.2.1, j3.2.2.2.2.2.2.2.2.1, j3.2.2.2.2.2.2.2.2.2.1, j3.2.2.2.2.2.2.2.2.2.2.1, j3.2.2.2.2.2.2.2.2.2.2.2.1, j3.2.2.2.2.2.2.2.2.2.2.2.2.1, j3.2.2.2.2.2.2.2.2.2.2.2.2.2.1, j3.2.2.2.2.2.2.2.2.2.2.2.2.2.2)
 else none
 else none
 else none
 else none).bind fun j4 =>
 bif eqI j4.2.2.2.2.2.2.2.2.2.2.1.2.2.1 9 then
 bif inI (W64 (j4.2.2.2.2.2.2.2.2.2.2.1.1.1 - 1)) 8 then
 (j4.2.2.2.2.2.2.2.2.1[(W64 (j4.2.2.2.2.2.2.2.2.2.2.1.1.1 - 1)).toNat]?).bind fun _x2 =>
 bif Nat.beq (List.length j4.2.1) (List.length j4.2.1) then
 bif Nat.beq (List.length j4.2.2.2.2.2.2.2.2.2.2.2.1) (List.length j4.2.2.2.2.2.2.2.2.2.2.2.1) then
 bif Nat.beq (List.length j4.2.2.2.2.2.2.2.2.2.2.2.2.1) (List.length j4.2.2.2.2.2.2.2.2.2.2.2.2.1) then
 bif Nat.beq (List.length j4.2.2.2.2.2.2.2.2.2.2.2.2.2) (List.length j4.2.2.2.2.2.2.2.2.2.2.2.2.2) then
 some (.inl ((W64 (j4.1 + 1), j4.2.1, j4.2.2.1, j4.2.2.2.1, j4.2.2.2.2.1, j4.2.2.2.2.2.1, j4.2.2.2.2.2.2.1, j4.2.2.2.2.2.2.2.1, j4.2.2.2.2.2.2.2.2.1.set ((W64 (j4.2.2.2.2.2.2.2.2.2.2.1.1.1 - 1)).toNat) true, j4.2.2.2.2.2.2.2.2.2.1, j4.2.2.2.2.2.2.2.2.2.2.2.1, j4.2.2.2.2.2.2.2.2.2.2.2.2.1, j4.2.2.2.2.2.2.2.2.2.2.2.2.2)))
 else none
 else none
 else none
 else none
 else none
 else
 bif Nat.beq (List.length j4.2.1) (List.length j4.2.1) then
 bif Nat.beq (List.length j4.2.2.2.2.2.2.2.2.2.2.2.1) (List.length j4.2.2.2.2.2.2.2.2.2.2.2.1) then
 bif Nat.beq (List.length j4.2.2.2.2.2.2.2.2.2.2.2.2.1) (List.length j4.2.2.2.2.2.2.2.2.2.2.2.2.1) then
 bif Nat.beq (List.length j4.2.2.2.2.2.2.2.2.2.2.2.2.2) (List.length j4.2.2.2.2.2.2.2.2.2.2.2.2.2) then
 some (.inl (W64 (j4.1 + 1), j4.2.1, j4.2.2.1, j4.2.2.2.1, j4.2.2.2.2.1, j4.2.2.2.2.2.1, j4.2.2.2.2.2.2.1, j4.2.2.2.2.2.2.2.1, j4.2.2.2.2.2.2.2.2.1, j4.2.2.2.2.2.2.2.2.2.1, j4.2.2.2.2.2.2.2.2.2.2.2.1, j4.2.2.2.2.2.2.2.2.2.2.2.2.1, j4.2.2.2.2.2.2.2.2.2.2.2.2.2))
 else none
 else none
 else none
 else none
 else none
 else
 bif Nat.beq (List.length t24) (List.length t24) then
 bif Nat.beq (List.length t25) (List.length t25) then
 bif Nat.beq (List.length t35) (List.length t35) then
 some (.inr (l, t2, t22, t23, t3, t32, t33, t34, t24, t25, t35))
 else none
 else none
 else none)
def z3e (s : zdl) : Option (zdl ⊕ zil) := zdq s.1 s.2.1 s.2.2.1 s.2.2.2.1 s.2.2.2.2.1 s.2.2.2.2.2.1 s.2.2.2.2.2.2.1 s.2.2.2.2.2.2.2.1 s.2.2.2.2.2.2.2.2.1 s.2.2.2.2.2.2.2.2.2.1 s.2.2.2.2.2.2.2.2.2.2.1 s.2.2.2.2.2.2.2.2.2.2.2.1 s.2.2.2.2.2.2.2.2.2.2.2.2
theorem zrz : SoundD Try.prog (.loop (subC (bodyC Try.f10) [1, 1, 1, 0, 1, 0, 0])) (loopD z6v.xe z6o (loopC z3e)) :=
 z0w (S := z6v.xe) (X := z6o) znc (h := (.two .no (.two (.two .no (.join (fun _ => z9e) (.join (fun _ => z7y) .no (.two (.two .no (.two .no (.two (.over (loopD z1n.xe z1m (loopC z1a))) (.two .no (.reg [5] []))))) .no)) (.join (fun _ => z7v) (.join (fun _ => z7a) .no .no) .no))) .no))) (z0p [.xs (fun _ => z9e), .xs (fun _ => z7y), .den (.loop (subC (bodyC Try.f10) [1, 1, 1, 0, 1, 0, 0, 1, 0, 0, 1, 0, 1, 0, 1, 1, 0, 0, 0])) (loopD z1n.xe z1m (loopC z1a)), .xs (fun _ => z7v), .xs (fun _ => z7a)] (by kernel_rfl) ⟨(z2j zjw), (z2j zid), zds, (z2j zig), (z2j zhp), trivial⟩) (z0c z6v) zrd z3e (fun s => by kernel_rfl)
def zvm : Shp := ⟨1, 1, [(0, .ag [.d c1, .wn 1 c14, .d c5, .d c16, .d (.arr 8 .bool)])], [.row 67 c9, .row 49 c14]⟩
def z10g : XS := .one .ret zvm.xe
theorem z1bi : z10g.OK := XS.one_ok (z0c zvm)
def zop (l : List T1) : Option (((List Int) × (List T2) × (List Int) × (List Bool) × (List T1) × (List T4))) :=
 winK l 0 (List.length l) fun w =>
 (znp w).bind fun r =>
 bif Nat.beq (List.length l) (List.length l) then
 (zkf l).bind fun r2 =>
 bif Nat.beq (List.length l) (List.length r2.2) then
 bif Nat.beq 0 (List.length ([] : List T4)) then
 bif Nat.beq 0 (List.length ([] : List T2)) then
 bif Nat.beq 0 (List.length ([] : List T4)) then
 (loopC z3e (0, r2.2, List.replicate 8 (0 : Int), List.replicate 8 (0 : Int), List.replicate 8 false, r, r2.1, List.replicate 8 (0 : Int), List.replicate 8 false, List.replicate 8 (0 : Int), ([] : List T4), ([] : List T2), ([] : List T4))).bind fun o =>
 bif Nat.beq (List.length o.2.2.2.2.2.2.2.2.2.2) (List.length o.2.2.2.2.2.2.2.2.2.2) then
 some (o.2.2.2.2.1, o.2.2.2.2.2.1, o.2.2.2.2.2.2.1, o.2.2.2.2.2.2.2.1, o.1, o.2.2.2.2.2.2.2.2.2.2)
 else none
 else none
 else none
 else none
 else none
 else none
def zzy : Sig := ⟨10, [.wn 0 c9], [.row 67 c9], 1, z10g⟩
def zyd (x : (List T1)) : Option (((List Int) × (List T2) × (List Int) × (List Bool) × (List T1) × (List T4))) := zop x
theorem z1g3 : FnOK Try.prog zzy zyd :=
 fn_ok znc (h := (.two .no (.two .no (.two .no (.two (.two .no (.over (loopD z6v.xe z6o (loopC z3e)))) .no))))) Try.func10 (z0p [.den (.loop (subC (bodyC Try.f10) [1, 1, 1, 0, 1, 0, 0])) (loopD z6v.xe z6o (loopC z3e))] (by kernel_rfl) ⟨zrz, trivial⟩) (by kernel_rfl) z1bi (fun x => by kernel_rfl)
def z1or : Env := ⟨[(entQ z1eh z1bl)], [], [(entD zzy zyd)]⟩
theorem z14b : EnvsOK Try.prog z1or := ⟨z0o (z0q z1m8) (z0x _), z0u _, z1kr (z1q0 z1g3) (z0t _)⟩
def zlk : Shp := ⟨27, 0, [(3, .wn 0 c9)], [.row 67 c9]⟩
def zad : XS := .one (.exit 0) zlk.xe
theorem zwt : zad.OK := XS.one_ok (z0c zlk)
def zak : Shp := ⟨27, 0, [(0, .d c3), (3, .wn 0 c9), (4, .d (.int .i64))], [.row 67 c9]⟩
abbrev zhd := (List T1) × Int × (List T1)
abbrev zob := ((List T1))
def zgz (l : List T1) (i : Int) (out : List T1) : Option (zhd ⊕ zob) :=
 z0s (List.length l) (
 bif ltI i (List.length l : Nat) then
 bif Nat.beq (List.length out) (List.length out) then
 (zop out).bind fun r =>
 (idxI l i).bind fun x =>
 winK r.2.2.2.2.2 0 (List.length r.2.2.2.2.2) fun w =>
 (z10j (r.1, w, r.2.1, r.2.2.1, r.2.2.2.1) x).bind fun r2 =>
 bif eqI r2 0 then
 (idxI l i).bind fun x2 =>
 bif Nat.beq (List.length out) (List.length r.2.2.2.2.1) then
 appG (List.length r.2.2.2.2.1) (List.length ([x2] : List T1)) 184 fun _ =>
 bif Nat.beq (List.length (r.2.2.2.2.1 ++ ([x2] : List T1))) (List.length (r.2.2.2.2.1 ++ ([x2] : List T1))) then
 some (.inl (l, W64 (i + 1), r.2.2.2.2.1 ++ ([x2] : List T1)))
 else none
 else none
 else
 bif Nat.beq (List.length out) (List.length r.2.2.2.2.1) then
 some (.inl (l, W64 (i + 1), r.2.2.2.2.1))
 else none
 else none
 else
 bif Nat.beq (List.length out) (List.length out) then
 some (.inr out)
 else none)
def z5j (s : zhd) : Option (zhd ⊕ zob) := zgz s.1 s.2.1 s.2.2
theorem zyt : SoundD Try.prog (.loop (subC (bodyC Try.f11) [1, 1, 0, 1, 0, 0])) (loopD zak.xe zad (loopC z5j)) :=
 z0w (S := zak.xe) (X := zad) z14b (h := .no) (z0p [] (by kernel_rfl) trivial) (z0c zak) zwt z5j (fun s => by kernel_rfl)
def z15l : Shp := ⟨1, 0, [(0, .d c3)], []⟩
def z19w : XS := .one .ret z15l.xe
theorem z1gi : z19w.OK := XS.one_ok (z0c z15l)
def zrl (l : List T1) : Option (((List T1))) :=
 bif Nat.beq 0 (List.length ([] : List T1)) then
 (loopC z5j (l, 0, ([] : List T1))).bind fun o =>
 winK o 0 (List.length o) fun w =>
 some w
 else none
def z1ah : Sig := ⟨11, [.d c3], [], 0, z19w⟩
def z17v (x : (List T1)) : Option (((List T1))) := zrl x
theorem z1ls : FnOK Try.prog z1ah z17v :=
 fn_ok z14b (h := (.two .no (.two .no (.two (.two .no (.over (loopD zak.xe zad (loopC z5j)))) .no)))) Try.func11 (z0p [.den (.loop (subC (bodyC Try.f11) [1, 1, 0, 1, 0, 0])) (loopD zak.xe zad (loopC z5j))] (by kernel_rfl) ⟨zyt, trivial⟩) (by kernel_rfl) z1gi (fun x => by kernel_rfl)
def z1n0 : Env := ⟨[], [], []⟩
theorem z14t : EnvsOK Try.prog z1n0 := ⟨z0x _, z0u _, z0t _⟩
def zl5 : Shp := ⟨26, 0, [], []⟩
def zls : Shp := ⟨26, 0, [(4, .d .bool)], []⟩
def zau : XS := .or (.exit 0) zl5.xe (.one .ret zls.xe)
theorem zwq : zau.OK := XS.or_ok (z0c zl5) (XS.one_ok (z0c zls))
def zb0 : Shp := ⟨26, 0, [(0, .d c5), (1, .d c5), (5, .d (.int .i64))], []⟩
abbrev zh6 := (List T2) × (List T2) × Int
abbrev zo0 := (Unit) ⊕ (Bool)
def zgv (a : List T2) (b : List T2) (i : Int) : Option (zh6 ⊕ zo0) :=
 z0s (List.length a) (
 bif ltI i (List.length a : Nat) then
 (idxI a i).bind fun x =>
 (idxI b i).bind fun x2 =>
 bif !(eqU c6 x x2) then
 some (.inr (.inr false))
 else
 some (.inl (a, b, W64 (i + 1)))
 else
 some (.inr (.inl ())))
def z5n (s : zh6) : Option (zh6 ⊕ zo0) := zgv s.1 s.2.1 s.2.2
theorem zxy : SoundD Try.prog (.loop (subC (bodyC Try.f41) [1, 1, 0, 1, 0, 0])) (loopD zb0.xe zau (loopC z5n)) :=
 z0w (S := zb0.xe) (X := zau) z14t (h := .no) (z0p [] (by kernel_rfl) trivial) (z0c zb0) zwq z5n (fun s => by kernel_rfl)
def z12z : Shp := ⟨1, 0, [(0, .d .bool)], []⟩
def z1a3 : XS := .one .ret z12z.xe
theorem z1ha : z1a3.OK := XS.one_ok (z0c z12z)
def zwc (a : List T2) (b : List T2) : Option ((Bool)) :=
 z0s (List.length a) (
 z0s (List.length b) (
 bif neI (List.length a : Nat) (List.length b : Nat) then
 some false
 else
 (loopC z5n (a, b, 0)).bind fun o =>
 Sum.elim (fun y =>
 some true) (fun y2 =>
 some y2) o))
def z1c1 : Sig := ⟨41, [.d c5, .d c5], [], 0, z1a3⟩
def z18f (x : (List T2) × (List T2)) : Option ((Bool)) := zwc x.1 x.2
theorem z1l6 : FnOK Try.prog z1c1 z18f :=
 fn_ok z14t (h := (.two .no (.two .no (.two (.two .no (.over (loopD zb0.xe zau (loopC z5n)))) .no)))) Try.func41 (z0p [.den (.loop (subC (bodyC Try.f41) [1, 1, 0, 1, 0, 0])) (loopD zb0.xe zau (loopC z5n))] (by kernel_rfl) ⟨zxy, trivial⟩) (by kernel_rfl) z1ha (fun x => by kernel_rfl)
def z1ob : Env := ⟨[], [], []⟩
theorem z13b : EnvsOK Try.prog z1ob := ⟨z0x _, z0u _, z0t _⟩
def zl9 : Shp := ⟨26, 0, [], []⟩
def zlr : Shp := ⟨26, 0, [(4, .d .bool)], []⟩
def zab : XS := .or (.exit 0) zl9.xe (.one .ret zlr.xe)
theorem zw4 : zab.OK := XS.or_ok (z0c zl9) (XS.one_ok (z0c zlr))
def zat : Shp := ⟨26, 0, [(0, .d c10), (1, .d c10), (5, .d (.int .i64))], []⟩
abbrev zhc := (List T3) × (List T3) × Int
abbrev zo6 := (Unit) ⊕ (Bool)
def zh2 (a : List T3) (b : List T3) (i : Int) : Option (zhc ⊕ zo6) :=
 z0s (List.length a) (
 bif ltI i (List.length a : Nat) then
 (idxI a i).bind fun x =>
 (idxI b i).bind fun x2 =>
 bif !(eqU c11 x x2) then
 some (.inr (.inr false))
 else
 some (.inl (a, b, W64 (i + 1)))
 else
 some (.inr (.inl ())))
def z5g (s : zhc) : Option (zhc ⊕ zo6) := zh2 s.1 s.2.1 s.2.2
theorem zxg : SoundD Try.prog (.loop (subC (bodyC Try.f20) [1, 1, 0, 1, 0, 0])) (loopD zat.xe zab (loopC z5g)) :=
 z0w (S := zat.xe) (X := zab) z13b (h := .no) (z0p [] (by kernel_rfl) trivial) (z0c zat) zw4 z5g (fun s => by kernel_rfl)
def z14i : Shp := ⟨1, 0, [(0, .d .bool)], []⟩
def z1b1 : XS := .one .ret z14i.xe
theorem z1h5 : z1b1.OK := XS.one_ok (z0c z14i)
def zwi (a : List T3) (b : List T3) : Option ((Bool)) :=
 z0s (List.length a) (
 z0s (List.length b) (
 bif neI (List.length a : Nat) (List.length b : Nat) then
 some false
 else
 (loopC z5g (a, b, 0)).bind fun o =>
 Sum.elim (fun y =>
 some true) (fun y2 =>
 some y2) o))
def z1ch : Sig := ⟨20, [.d c10, .d c10], [], 0, z1b1⟩
def z17l (x : (List T3) × (List T3)) : Option ((Bool)) := zwi x.1 x.2
theorem z1lz : FnOK Try.prog z1ch z17l :=
 fn_ok z13b (h := (.two .no (.two .no (.two (.two .no (.over (loopD zat.xe zab (loopC z5g)))) .no)))) Try.func20 (z0p [.den (.loop (subC (bodyC Try.f20) [1, 1, 0, 1, 0, 0])) (loopD zat.xe zab (loopC z5g))] (by kernel_rfl) ⟨zxg, trivial⟩) (by kernel_rfl) z1h5 (fun x => by kernel_rfl)
def z1n3 : Env := ⟨[(entQ z1c1 z18f), (entQ z1ch z17l)], [], []⟩
theorem z13d : EnvsOK Try.prog z1n3 := ⟨z0o (z0q z1l6) (z0o (z0q z1lz) (z0x _)), z0u _, z0t _⟩
def zlw : Shp := ⟨102, 0, [], []⟩
def zm8 : Shp := ⟨102, 0, [(4, .d .bool)], []⟩
def zag : XS := .or (.exit 0) zlw.xe (.one .ret zm8.xe)
theorem zw6 : zag.OK := XS.or_ok (z0c zlw) (XS.one_ok (z0c zm8))
def zb3 : Shp := ⟨102, 0, [(2, .pt 0 r15 []), (3, .pt 1 r15 []), (5, .d (.int .i64))], [.var 33 (.d c17), .var 33 (.d c17)]⟩
abbrev zgs := Int × T5 × T5
abbrev zns := (Unit) ⊕ (Bool)
def zgx (i : Int) (a : T5) (b : T5) : Option (zgs ⊕ zns) :=
 z0s (List.length a.2.1) (
 bif ltI i (List.length a.2.1 : Nat) then
 (idxI a.2.1 i).bind fun x =>
 (idxI b.2.1 i).bind fun x2 =>
 bif !(eqU c0 x.1 x2.1) then
 some (.inr (.inr false))
 else
 bif !(x.2.1 == x2.2.1) then
 some (.inr (.inr false))
 else
 bif !(eqU c0 x.2.2.1 x2.2.2.1) then
 some (.inr (.inr false))
 else
 bif !(eqS x.2.2.2.1 x2.2.2.2.1) then
 some (.inr (.inr false))
 else
 bif !(eqU c1 x.2.2.2.2.1 x2.2.2.2.2.1) then
 some (.inr (.inr false))
 else
 (zwi x.2.2.2.2.2 x2.2.2.2.2.2).bind fun r =>
 bif !r then
 some (.inr (.inr false))
 else
 some (.inl (W64 (i + 1), a, b))
 else
 some (.inr (.inl ())))
def z5l (s : zgs) : Option (zgs ⊕ zns) := zgx s.1 s.2.1 s.2.2
theorem zxo : SoundD Try.prog (.loop (subC (bodyC Try.f13) [1, 1, 0, 1, 0, 0])) (loopD zb3.xe zag (loopC z5l)) :=
 z0w (S := zb3.xe) (X := zag) z13d (h := .no) (z0p [] (by kernel_rfl) trivial) (z0c zb3) zw6 z5l (fun s => by kernel_rfl)
def z15e : Shp := ⟨1, 0, [(0, .d .bool)], []⟩
def z1bm : XS := .one .ret z15e.xe
theorem z1he : z1bm.OK := XS.one_ok (z0c z15e)
def zma (a : T5) (b : T5) : Option ((Bool)) :=
 bif !(eqU c1 a.1 b.1) then
 some false
 else
 bif !(eqU c16 a.2.2.2.1 b.2.2.2.1) then
 some false
 else
 bif !(eqU (.arr 8 .bool) a.2.2.2.2 b.2.2.2.2) then
 some false
 else
 (zwc a.2.2.1 b.2.2.1).bind fun r =>
 bif !r then
 some false
 else
 z0s (List.length a.2.1) (
 z0s (List.length b.2.1) (
 bif neI (List.length a.2.1 : Nat) (List.length b.2.1 : Nat) then
 some false
 else
 (loopC z5l (0, a, b)).bind fun o =>
 Sum.elim (fun y =>
 some true) (fun y2 =>
 some y2) o))
def z1b3 : Sig := ⟨13, [.d c17, .d c17], [], 0, z1bm⟩
def z18w (x : T5 × T5) : Option ((Bool)) := zma x.1 x.2
theorem z1l7 : FnOK Try.prog z1b3 z18w :=
 fn_ok z13d (h := (.two .no (.two .no (.two (.two .no (.over (loopD zb3.xe zag (loopC z5l)))) .no)))) Try.func13 (z0p [.den (.loop (subC (bodyC Try.f13) [1, 1, 0, 1, 0, 0])) (loopD zb3.xe zag (loopC z5l))] (by kernel_rfl) ⟨zxo, trivial⟩) (by kernel_rfl) z1he (fun x => by kernel_rfl)
end Go.Proofs.Ytfbdjicfkcklfaa
set_option maxRecDepth 100000
set_option linter.unusedVariables false
noncomputable section
namespace Go.Proofs.Ytfbdjicfkcklfaa
open Go.Tm Go.Ab
def z1fs : Env := ⟨[(entQ z18h z12m), (entQ z1b5 z18k), (entQ z1ah z17v), (entQ zuq zsg), (entQ zqr zoy), (entQ zys zur), (entQ z1b3 z18w)], [], []⟩
theorem z1ar : EnvsOK Try.prog z1fs := ⟨z0o (z0q z1ip) (z0o (z0q z1lg) (z0o (z0q z1ls) (z0o (z0q z14r) (z0o (z0q zyh) (z0o (z0q z17z) (z0o (z0q z1l7) (z0x _))))))), z0u _, z0t _⟩
def ztm : Shp := ⟨1, 0, [(0, .d .bool)], []⟩
def zyn : XS := .one .ret ztm.xe
theorem z19m : zyn.OK := XS.one_ok (z0c ztm)
def zsw (l : List T1) (base : List Int) : Option ((Bool)) :=
 (zd6).bind fun r =>
 bif !r then
 (zd6).bind fun r2 =>
 some r2
 else
 (zro l).bind fun r3 =>
 bif !r3 then
 (zd6).bind fun r4 =>
 some r4
 else
 (zrl l).bind fun r5 =>
 (zet r5).bind fun r6 =>
 (z9g r6 r6.1).bind fun r7 =>
 (zj5 r7).bind fun r8 =>
 bif neI r8 0 then
 some false
 else
 (z9g r7 base).bind fun r9 =>
 (zma r9 r7).bind fun r10 =>
 bif !r10 then
 some false
 else
 (z9g r6 base).bind fun r11 =>
 (z9g r11 base).bind fun r12 =>
 (zma r12 r11).bind fun r13 =>
 bif r13 then
 (zj5 r11).bind fun r14 =>
 (zj5 r6).bind fun r15 =>
 z0s (List.length r6.2.1) (
 bif leI r14 (W64 (r15 + (List.length r6.2.1 : Nat))) then
 (z9g r11 r6.1).bind fun r16 =>
 (zma r16 r7).bind fun r17 =>
 some r17
 else
 some false)
 else
 some false
def z1g1 : Sig := ⟨4, [.d c3, .d c1], [], 0, zyn⟩
def zvd (x : (List T1) × (List Int)) : Option ((Bool)) := zsw x.1 x.2
theorem z1d9 : FnOK Try.prog z1g1 zvd :=
 fn_ok z1ar (h := .no) Try.func4 (z0p [] (by kernel_rfl) trivial) (by kernel_rfl) z19m (fun x => by kernel_rfl)
end Go.Proofs.Ytfbdjicfkcklfaa
set_option maxRecDepth 100000
set_option linter.unusedSimpArgs false
set_option linter.unusedVariables false
namespace Go.Proofs.Ytfbdjicfkcklfaa
open Go.Tm Go.Ab
theorem z0z {A : Type} {a b : T0} {x y : Option A} {Q : A → Prop} (h : a = b → Ok x Q) (g : ¬ a = b → Ok y Q) : Ok (bif eqU c0 a b then x else y) Q := z1nk (u := c0) rfl h g
def VecOk (v : List Int) : Prop := v.length = 8
def joinV (a b : List Int) : List Int := List.zipWith (fun x y => if x < y then y else x) a b
theorem z16g {a b : List Int} (ha : VecOk a) (hb : VecOk b) : VecOk (joinV a b) := by unfold VecOk joinV at *; simp [ha, hb]
def fillV (v : List Int) (i : Nat) : List Int := v.take i ++ List.replicate (8 - i) 0
theorem z1ju {v : List Int} (h : v.length = 8) {i : Nat} (hi : i ≤ 8) : (fillV v i).length = 8 := by unfold fillV; simp; omega
theorem z1ci {v : List Int} (h : v.length = 8) {i : Nat} (hi : i < 8) {x : Int} (hx : x = v[i]) : (fillV v i).set i x = fillV v (i + 1) := by
 unfold fillV
 rw [List.set_append_right _ _ (by simp; omega), hx, List.take_succ_eq_append_getElem (by omega), List.append_assoc]
 have : i - (List.take i v).length = 0 := by simp; omega
 rw [this, show 8 - i = (8 - (i + 1)) + 1 by omega, List.replicate_succ]; rfl
theorem z1r0 {v : List Int} (h : v.length = 8) {i : Nat} (hi : i < 8) (hx : v[i] = 0) : fillV v i = fillV v (i + 1) := by
 unfold fillV
 rw [List.take_succ_eq_append_getElem (by omega), hx, show 8 - i = (8 - (i + 1)) + 1 by omega, List.replicate_succ]; simp
theorem z1ki {v : List Int} (h : v.length = 8) : fillV v 8 = v := by unfold fillV; rw [List.take_of_length_le (by omega)]; simp
theorem z1cy {a b : List Int} (ha : VecOk a) (hb : VecOk b) : zj4 a b = some (joinV a b) := by
 refine ok_is ?_
 have hj := z16g ha hb
 unfold VecOk at ha hb hj
 unfold zj4
 refine z0a (z1o 8 (fun i _ => ((i : Int), a, b, List.replicate 8 (0 : Int), fillV (joinV a b) i)) (fun _ (_ : Unit) => True) () rfl trivial (fun _ _ => ?_) fun i _ hi _ => ?_)
 · unfold z5i zgy
   dsimp only
   repeat' first
     | (dsimp only [Int.toNat_natCast, List.length_nil])
     | with_reducible first | refine z0f ?_ | refine z0g ?_ | refine z0d ?_ | refine z0e ?_ | refine z0b ?_ | refine z0i ?_ | refine qs ?_ | refine qb ?_ | refine z0j ?_ | refine qw ?_ | refine z0n ?_ | refine z0l ?_ | refine qi ?_ | refine qg (h := ?_) | refine qx (h := ?_) | refine qy (h := ?_) | refine qa ?_ | refine qc ?_ | refine ql ?_ | refine qp ?_ | refine z0a ?_ | rfl
     | (with_reducible first | refine ok_lt ?_ ?_ | refine ok_le ?_ ?_ | refine z0h ?_ ?_ | refine z0k ?_ ?_ | refine z0m ?_ ?_ | refine qu ?_ ?_ | refine ok_if ?_ ?_) <;> intro _ <;> try (exfalso; omega)
   exact z1ki hj
 · unfold z5i zgy
   dsimp only
   have hl := z1ju hj (i := i) (by omega)
   have hji : (joinV a b)[i] = if a[i] < b[i] then b[i] else a[i] := by simp [joinV]
   repeat' first
     | (dsimp only [Int.toNat_natCast, List.length_nil])
     | with_reducible first | refine z0f ?_ | refine z0g ?_ | refine z0d ?_ | refine z0e ?_ | refine z0b ?_ | refine z0i ?_ | refine qs ?_ | refine qb ?_ | refine z0j ?_ | refine qw ?_ | refine z0n ?_ | refine z0l ?_ | refine qi ?_ | refine qg (h := ?_) | refine qx (h := ?_) | refine qy (h := ?_) | refine qa ?_ | refine qc ?_ | refine ql ?_ | refine qp ?_ | refine z0a ?_ | rfl
     | (with_reducible first | refine ok_lt ?_ ?_ | refine ok_le ?_ ?_ | refine z0h ?_ ?_ | refine z0k ?_ ?_ | refine z0m ?_ ?_ | refine qu ?_ ?_ | refine ok_if ?_ ?_) <;> intro _ <;> try (exfalso; omega)
   · rename_i h1 h2
     refine ⟨(), ?_, trivial⟩
     rw [z0r (by omega)]
     try simp only [Int.toNat_natCast] at h2 ⊢
     rw [List.set_set, z1ci hj hi (hji.trans (if_pos h2)).symm]; rfl
   · rename_i h1 h2
     refine ⟨(), ?_, trivial⟩
     rw [z0r (by omega)]
     try simp only [Int.toNat_natCast] at h2 ⊢
     rw [z1ci hj hi (hji.trans (if_neg h2)).symm]; rfl
def oneV (id : T0) : List Int := (List.range 8).map fun i : Nat => if (i : Int) + 1 = id.1 then id.2 else 0
theorem zew (id : T0) : VecOk (oneV id) := by unfold VecOk oneV; simp
theorem z1xs (id : T0) : zzs id = some (oneV id) := by
 refine ok_is ?_
 have hj := zew id
 unfold VecOk at hj
 unfold zzs
 refine z0a (z1o 8 (fun i _ => ((i : Int), id, List.replicate 8 (0 : Int), fillV (oneV id) i)) (fun _ (_ : Unit) => True) () rfl trivial (fun _ _ => ?_) fun i _ hi _ => ?_)
 · unfold z5v zht
   dsimp only
   repeat' first
     | (dsimp only [Int.toNat_natCast, List.length_nil])
     | with_reducible first | refine z0f ?_ | refine z0g ?_ | refine z0d ?_ | refine z0e ?_ | refine z0b ?_ | refine z0i ?_ | refine qs ?_ | refine qb ?_ | refine z0j ?_ | refine qw ?_ | refine z0n ?_ | refine z0l ?_ | refine qi ?_ | refine qg (h := ?_) | refine qx (h := ?_) | refine qy (h := ?_) | refine qa ?_ | refine qc ?_ | refine ql ?_ | refine qp ?_ | refine z0a ?_ | rfl
     | (with_reducible first | refine ok_lt ?_ ?_ | refine ok_le ?_ ?_ | refine z0h ?_ ?_ | refine z0k ?_ ?_ | refine z0m ?_ ?_ | refine qu ?_ ?_ | refine ok_if ?_ ?_) <;> intro _ <;> try (exfalso; omega)
   exact z1ki hj
 · unfold z5v zht
   dsimp only
   have hl := z1ju hj (i := i) (by omega)
   have hji : (oneV id)[i] = if (i : Int) + 1 = id.1 then id.2 else 0 := by simp [oneV]
   repeat' first
     | (dsimp only [Int.toNat_natCast, List.length_nil])
     | with_reducible first | refine z0f ?_ | refine z0g ?_ | refine z0d ?_ | refine z0e ?_ | refine z0b ?_ | refine z0i ?_ | refine qs ?_ | refine qb ?_ | refine z0j ?_ | refine qw ?_ | refine z0n ?_ | refine z0l ?_ | refine qi ?_ | refine qg (h := ?_) | refine qx (h := ?_) | refine qy (h := ?_) | refine qa ?_ | refine qc ?_ | refine ql ?_ | refine qp ?_ | refine z0a ?_ | rfl
     | (with_reducible first | refine ok_lt ?_ ?_ | refine ok_le ?_ ?_ | refine z0h ?_ ?_ | refine z0k ?_ ?_ | refine z0m ?_ ?_ | refine qu ?_ ?_ | refine ok_if ?_ ?_) <;> intro _ <;> try (exfalso; omega)
   · rename_i h1 h2
     refine ⟨(), ?_, trivial⟩
     rw [z0r (by omega)] at h2 ⊢
     try simp only [Int.toNat_natCast]
     rw [z1ci hj hi (hji.trans (if_pos h2)).symm]; rfl
   · rename_i h1 h2
     refine ⟨(), ?_, trivial⟩
     rw [z0r (by omega)] at h2 ⊢
     rw [z1r0 hj hi (hji.trans (if_neg h2))]; rfl
def withV (v : List Int) (id : T0) : List Int := joinV v (oneV id)
theorem zj9 {v : List Int} (h : VecOk v) (id : T0) : VecOk (withV v id) := z16g h (zew id)
theorem zk5 {v : List Int} (h : VecOk v) (id : T0) : z9k v id = some (withV v id) := by
 unfold z9k; rw [z1xs]; simp only [Option.bind_some]; rw [z1cy h (zew id)]; rfl
def getV (v : List Int) (rep : Int) : Int := if 1 ≤ rep ∧ rep ≤ 8 then (v[(rep - 1).toNat]?).getD 0 else 0
theorem z1ig {v : List Int} (h : VecOk v) (rep : Int) : zm6 v rep = some (getV v rep) := by
 refine ok_is ?_
 unfold VecOk at h
 unfold zm6
 refine z0a (z1o 8 (fun i _ => (rep, (i : Int), v)) (fun i (_ : Unit) => ¬ (1 ≤ rep ∧ rep ≤ i)) () rfl (by omega) (fun _ hn => ?_) fun i _ hi hn => ?_)
 · unfold z7w zk6
   dsimp only
   repeat' first
     | (dsimp only [Int.toNat_natCast, List.length_nil])
     | with_reducible first | refine z0f ?_ | refine z0g ?_ | refine z0d ?_ | refine z0e ?_ | refine z0b ?_ | refine z0i ?_ | refine qs ?_ | refine qb ?_ | refine z0j ?_ | refine qw ?_ | refine z0n ?_ | refine z0l ?_ | refine qi ?_ | refine qg (h := ?_) | refine qx (h := ?_) | refine qy (h := ?_) | refine qa ?_ | refine qc ?_ | refine ql ?_ | refine qp ?_ | refine z0a ?_ | rfl
     | (with_reducible first | refine ok_lt ?_ ?_ | refine ok_le ?_ ?_ | refine z0h ?_ ?_ | refine z0k ?_ ?_ | refine z0m ?_ ?_ | refine qu ?_ ?_ | refine ok_if ?_ ?_) <;> intro _ <;> try (exfalso; omega)
   unfold getV; rw [if_neg (by omega)]
 · unfold z7w zk6
   dsimp only
   repeat' first
     | (dsimp only [Int.toNat_natCast, List.length_nil])
     | with_reducible first | refine z0f ?_ | refine z0g ?_ | refine z0d ?_ | refine z0e ?_ | refine z0b ?_ | refine z0i ?_ | refine qs ?_ | refine qb ?_ | refine z0j ?_ | refine qw ?_ | refine z0n ?_ | refine z0l ?_ | refine qi ?_ | refine qg (h := ?_) | refine qx (h := ?_) | refine qy (h := ?_) | refine qa ?_ | refine qc ?_ | refine ql ?_ | refine qp ?_ | refine z0a ?_ | rfl
     | (with_reducible first | refine ok_lt ?_ ?_ | refine ok_le ?_ ?_ | refine z0h ?_ ?_ | refine z0k ?_ ?_ | refine z0m ?_ ?_ | refine qu ?_ ?_ | refine ok_if ?_ ?_) <;> intro _ <;> try (exfalso; omega)
   · rename_i h1 h2
     rw [z0r (by omega)] at h2
     unfold getV
     rw [if_pos (by omega), show (rep - 1).toNat = i by omega, getE (by omega)]; rfl
   · rename_i h1 h2
     rw [z0r (by omega)] at h2
     refine ⟨(), ?_, by omega⟩
     rw [z0r (by omega)]; rfl
def hasV (v : List Int) (id : T0) : Bool := ltI 0 id.2 && leI id.2 (getV v id.1)
theorem z1xk {v : List Int} (h : VecOk v) (rep : Int) : z1cx v rep = some (getV v rep) := by
 refine ok_is ?_
 unfold VecOk at h
 unfold z1cx
 by_cases h1 : 1 ≤ rep ∧ rep ≤ 8
 · rw [z0r (by omega)]
   repeat' first
     | (dsimp only [Int.toNat_natCast, List.length_nil])
     | with_reducible first | refine z0f ?_ | refine z0g ?_ | refine z0d ?_ | refine z0e ?_ | refine z0b ?_ | refine z0i ?_ | refine qs ?_ | refine qb ?_ | refine z0j ?_ | refine qw ?_ | refine z0n ?_ | refine z0l ?_ | refine qi ?_ | refine qg (h := ?_) | refine qx (h := ?_) | refine qy (h := ?_) | refine qa ?_ | refine qc ?_ | refine ql ?_ | refine qp ?_ | refine z0a ?_ | rfl
     | (with_reducible first | refine ok_lt ?_ ?_ | refine ok_le ?_ ?_ | refine z0h ?_ ?_ | refine z0k ?_ ?_ | refine z0m ?_ ?_ | refine qu ?_ ?_ | refine ok_if ?_ ?_) <;> intro _ <;> try (exfalso; omega)
   unfold getV
   rw [if_pos h1, getE (by omega)]; rfl
 · rw [show getV v rep = 0 by unfold getV; rw [if_neg h1]]
   repeat' first
     | (dsimp only [Int.toNat_natCast, List.length_nil])
     | with_reducible first | refine z0f ?_ | refine z0g ?_ | refine z0d ?_ | refine z0e ?_ | refine z0b ?_ | refine z0i ?_ | refine qs ?_ | refine qb ?_ | refine z0j ?_ | refine qw ?_ | refine z0n ?_ | refine z0l ?_ | refine qi ?_ | refine qg (h := ?_) | refine qx (h := ?_) | refine qy (h := ?_) | refine qa ?_ | refine qc ?_ | refine ql ?_ | refine qp ?_ | refine z0a ?_ | rfl
     | (with_reducible first | refine ok_lt ?_ ?_ | refine ok_le ?_ ?_ | refine z0h ?_ ?_ | refine z0k ?_ ?_ | refine z0m ?_ ?_ | refine qu ?_ ?_ | refine ok_if ?_ ?_) <;> intro _ <;> try (exfalso; omega)
theorem z1j3 {v : List Int} (h : VecOk v) (id : T0) : zx2 v id = some (hasV v id) := by
 refine ok_is ?_
 unfold zx2 hasV
 rw [z1xk h]
 repeat' first
   | (dsimp only [Int.toNat_natCast, List.length_nil])
   | with_reducible first | refine z0f ?_ | refine z0g ?_ | refine z0d ?_ | refine z0e ?_ | refine z0b ?_ | refine z0i ?_ | refine qs ?_ | refine qb ?_ | refine z0j ?_ | refine qw ?_ | refine z0n ?_ | refine z0l ?_ | refine qi ?_ | refine qg (h := ?_) | refine qx (h := ?_) | refine qy (h := ?_) | refine qa ?_ | refine qc ?_ | refine ql ?_ | refine qp ?_ | refine z0a ?_ | rfl
   | (with_reducible first | refine ok_lt ?_ ?_ | refine ok_le ?_ ?_ | refine z0h ?_ ?_ | refine z0k ?_ ?_ | refine z0m ?_ ?_ | refine qu ?_ ?_ | refine ok_if ?_ ?_) <;> intro _ <;> try (exfalso; omega)
 · rw [ltI_t (by omega)]; rfl
 · rw [ltI_f (by omega)]; rfl
theorem zt0 (a b : T0) : zax a b = some (ltI a.2 b.2 || (eqI a.2 b.2 && ltI a.1 b.1)) := by
 refine ok_is ?_
 unfold zax
 repeat' first
   | (dsimp only [Int.toNat_natCast, List.length_nil])
   | with_reducible first | refine z0f ?_ | refine z0g ?_ | refine z0d ?_ | refine z0e ?_ | refine z0b ?_ | refine z0i ?_ | refine qs ?_ | refine qb ?_ | refine z0j ?_ | refine qw ?_ | refine z0n ?_ | refine z0l ?_ | refine qi ?_ | refine qg (h := ?_) | refine qx (h := ?_) | refine qy (h := ?_) | refine qa ?_ | refine qc ?_ | refine ql ?_ | refine qp ?_ | refine z0a ?_ | rfl
   | (with_reducible first | refine ok_lt ?_ ?_ | refine ok_le ?_ ?_ | refine z0h ?_ ?_ | refine z0k ?_ ?_ | refine z0m ?_ ?_ | refine qu ?_ ?_ | refine ok_if ?_ ?_) <;> intro _ <;> try (exfalso; omega)
 · rw [ltI_t (by assumption)]; rfl
 · rename_i h1 h2
   rw [ltI_f h1, eqI_t h2]; rfl
 · rw [ltI_f (by assumption), eqI_f (by assumption)]; rfl
def leqV (a b : List Int) : Bool := (List.zip a b).all fun x => leI x.1 x.2
end Go.Proofs.Ytfbdjicfkcklfaa
set_option maxRecDepth 100000
set_option linter.unusedSimpArgs false
set_option linter.unusedVariables false
namespace Go.Proofs.Ytfbdjicfkcklfaa
open Go.Tm Go.Ab
def leV (a b : List Int) : Prop := ∀ i, i < 8 → (a[i]?).getD 0 ≤ (b[i]?).getD 0
theorem z1nj (a : List Int) : leV a a := fun _ _ => Int.le_refl _
theorem z11k {a b c : List Int} (h : leV a b) (g : leV b c) : leV a c := fun i hi => Int.le_trans (h i hi) (g i hi)
theorem z1f8 {a b : List Int} (ha : VecOk a) (hb : VecOk b) (i : Nat) (hi : i < 8) : ((joinV a b)[i]?).getD 0 = if (a[i]?).getD 0 < (b[i]?).getD 0 then (b[i]?).getD 0 else (a[i]?).getD 0 := by
 unfold VecOk at ha hb
 have hj : (joinV a b).length = 8 := z16g ha hb
 rw [getE (by omega), getE (by omega), getE (by omega)]
 simp [joinV]
theorem z16l {a b : List Int} (ha : VecOk a) (hb : VecOk b) : leV a (joinV a b) := fun i hi => by
 rw [z1f8 ha hb i hi]; split <;> omega
theorem z1pi {a b : List Int} (ha : VecOk a) (hb : VecOk b) : leV b (joinV a b) := fun i hi => by
 rw [z1f8 ha hb i hi]; split <;> omega
theorem z1nd {a b c : List Int} (ha : VecOk a) (hb : VecOk b) (h : leV a c) (g : leV b c) : leV (joinV a b) c := fun i hi => by
 rw [z1f8 ha hb i hi]; have := h i hi; have := g i hi; split <;> omega
def zeroV : List Int := List.replicate 8 0
theorem zsv : VecOk zeroV := List.length_replicate ..
theorem z1fa (i : Nat) : (zeroV[i]?).getD 0 = 0 := by unfold zeroV; rw [List.getElem?_replicate]; split <;> rfl
theorem z1qg (id : T0) (i : Nat) (hi : i < 8) : ((oneV id)[i]?).getD 0 = if (i : Int) + 1 = id.1 then id.2 else 0 := by
 have hj : (oneV id).length = 8 := zew id
 rw [getE (by omega)]; simp [oneV]
def zrh (v : List Int) (id : T0) : Prop := id.2 ≤ getV v id.1
def natV (v : List Int) : Prop := ∀ i, i < 8 → 0 ≤ (v[i]?).getD 0
theorem z10k : natV zeroV := fun i _ => by rw [z1fa]; omega
theorem zpo {a b : List Int} (ha : VecOk a) (hb : VecOk b) (h : natV a) : natV (joinV a b) := fun i hi => Int.le_trans (h i hi) (z16l ha hb i hi)
theorem z1wu {v : List Int} {id : T0} (h : natV v) (g : zrh v id) : leV (oneV id) v := fun i hi => by
 rw [z1qg id i hi]
 split
 · rename_i e
   unfold zrh getV at g
   rw [if_pos (by omega), show (id.1 - 1).toNat = i by omega] at g
   exact g
 · exact h i hi
theorem z1f9 {v w : List Int} {id : T0} (hv : VecOk v) (h : leV v w) (hw : natV w) (g : zrh w id) : leV (withV v id) w := z1nd hv (zew id) h (z1wu hw g)
theorem z1l5 {v w : List Int} (h : leV v w) (r : Int) : getV v r ≤ getV w r := by
 unfold getV
 split
 · exact h _ (by omega)
 · exact Int.le_refl _
theorem z1ej {v w : List Int} {id : T0} (h : leV v w) (g : zrh v id) : zrh w id := Int.le_trans g (z1l5 h _)
theorem z1eo {v : List Int} (hv : VecOk v) {id : T0} (hr : 1 ≤ id.1 ∧ id.1 ≤ 8) : zrh (withV v id) id := by
 have h := z1pi hv (zew id) (id.1 - 1).toNat (by omega)
 rw [z1qg id _ (by omega), if_pos (by omega)] at h
 unfold zrh getV
 rw [if_pos hr]; exact h
abbrev zge (e : T1) : Int := e.2.2.1
abbrev zi4 (e : T1) : List T0 := e.2.2.2.2.2.2.2.1
abbrev z19z (e : T1) : List T0 := e.2.2.2.2.2.2.1
abbrev z1m9 (e : T1) : List Int := e.2.2.2.2.2.2.2.2.2.1
abbrev evOff (e : T1) : Int := e.2.2.2.2.2.2.2.2.1
structure EvIn (e : T1) : Prop where
 dep : VecOk e.2.1
 nat : natV e.2.1
 name : e.2.2.2.2.2.1.length ≤ 30
 gone : (z19z e).length ≤ 10
 base : (zi4 e).length ≤ 10
 data : (z1m9 e).length ≤ 250
 off : -9223372036854775808 ≤ evOff e ∧ evOff e ≤ 9223372036854775807
def Chain (l : List T1) : Prop := ∀ i (h : i < l.length), ∀ b, (zi4 l[i])[0]? = some b → ∃ j, ∃ h : j < l.length, j < i ∧ l[j].1 = b
theorem in_is (l : List T0) (x : T0) (hl : l.length ≤ 1000) : ∃ b, zha l x = some b := by
 have : Ok (zha l x) (fun _ => True) := by
   unfold zha
   refine z0a (z1o l.length (fun i _ => (l, (i : Int), x)) (fun _ (_ : Unit) => True) () rfl trivial (fun _ _ => ?_) fun i _ hi _ => ?_)
   · unfold z6t zgi
     dsimp only
     repeat' first
       | (dsimp only [Int.toNat_natCast, List.length_nil])
       | ((with_reducible refine z0z ?_ ?_) <;> intro _ <;> try (exfalso; omega))
       | with_reducible first | refine z0f ?_ | refine z0g ?_ | refine z0d ?_ | refine z0e ?_ | refine z0b ?_ | refine z0i ?_ | refine qs ?_ | refine qb ?_ | refine z0j ?_ | refine qw ?_ | refine z0n ?_ | refine z0l ?_ | refine qi ?_ | refine qg (h := ?_) | refine qx (h := ?_) | refine qy (h := ?_) | refine qa ?_ | refine qc ?_ | refine ql ?_ | refine qp ?_ | refine z0a ?_ | rfl
       | (with_reducible first | refine ok_lt ?_ ?_ | refine ok_le ?_ ?_ | refine z0h ?_ ?_ | refine z0k ?_ ?_ | refine z0m ?_ ?_ | refine qu ?_ ?_ | refine ok_if ?_ ?_) <;> intro _ <;> try (exfalso; omega)
   · unfold z6t zgi
     dsimp only
     repeat' first
       | (dsimp only [Int.toNat_natCast, List.length_nil])
       | ((with_reducible refine z0z ?_ ?_) <;> intro _ <;> try (exfalso; omega))
       | with_reducible first | refine z0f ?_ | refine z0g ?_ | refine z0d ?_ | refine z0e ?_ | refine z0b ?_ | refine z0i ?_ | refine qs ?_ | refine qb ?_ | refine z0j ?_ | refine qw ?_ | refine z0n ?_ | refine z0l ?_ | refine qi ?_ | refine qg (h := ?_) | refine qx (h := ?_) | refine qy (h := ?_) | refine qa ?_ | refine qc ?_ | refine ql ?_ | refine qp ?_ | refine z0a ?_ | rfl
       | (with_reducible first | refine ok_lt ?_ ?_ | refine ok_le ?_ ?_ | refine z0h ?_ ?_ | refine z0k ?_ ?_ | refine z0m ?_ ?_ | refine qu ?_ ?_ | refine ok_if ?_ ?_) <;> intro _ <;> try (exfalso; omega)
     exact ⟨(), by rw [z0r (by omega)]; rfl, trivial⟩
 obtain ⟨b, h, _⟩ := this
 exact ⟨b, h⟩
theorem z11i (e : T1) : zf3 e = some (eqI (zge e) 3 || (eqI (zge e) 4 || eqI (zge e) 5)) := by
 refine ok_is ?_
 unfold zf3
 repeat' first
   | (dsimp only [Int.toNat_natCast, List.length_nil])
   | ((with_reducible refine z0z ?_ ?_) <;> intro _ <;> try (exfalso; omega))
   | with_reducible first | refine z0f ?_ | refine z0g ?_ | refine z0d ?_ | refine z0e ?_ | refine z0b ?_ | refine z0i ?_ | refine qs ?_ | refine qb ?_ | refine z0j ?_ | refine qw ?_ | refine z0n ?_ | refine z0l ?_ | refine qi ?_ | refine qg (h := ?_) | refine qx (h := ?_) | refine qy (h := ?_) | refine qa ?_ | refine qc ?_ | refine ql ?_ | refine qp ?_ | refine z0a ?_ | rfl
   | (with_reducible first | refine ok_lt ?_ ?_ | refine ok_le ?_ ?_ | refine z0h ?_ ?_ | refine z0k ?_ ?_ | refine z0m ?_ ?_ | refine qu ?_ ?_ | refine ok_if ?_ ?_) <;> intro _ <;> try (exfalso; omega)
 · rename_i h; rw [eqI_t h]; rfl
 · rename_i h g; rw [eqI_f h, eqI_t g]; rfl
 · rename_i h g; rw [eqI_f h, eqI_f g]; rfl
theorem z1xc (l : List T1) (x : T0) (hl : l.length ≤ 1000) : Ok (zwv l x) fun r => (r.2 = true ∧ ∃ i, ∃ h : i < l.length, r.1 = l[i] ∧ l[i].1 = x ∧ ∀ j (hj : j < l.length), j < i → ¬ l[j].1 = x) ∨ r.2 = false := by
 unfold zwv
 refine z0a (z1o l.length (fun i _ => (l, (i : Int), x, _)) (fun i (_ : Unit) => ∀ j (hj : j < l.length), j < i → ¬ l[j].1 = x) () rfl (fun j _ h => by omega) (fun _ _ => ?_) fun i _ hi hI => ?_)
 · unfold z7b zja
   dsimp only
   repeat' first
     | (dsimp only [Int.toNat_natCast, List.length_nil])
     | ((with_reducible refine z0z ?_ ?_) <;> intro _ <;> try (exfalso; omega))
     | with_reducible first | refine z0f ?_ | refine z0g ?_ | refine z0d ?_ | refine z0e ?_ | refine z0b ?_ | refine z0i ?_ | refine qs ?_ | refine qb ?_ | refine z0j ?_ | refine qw ?_ | refine z0n ?_ | refine z0l ?_ | refine qi ?_ | refine qg (h := ?_) | refine qx (h := ?_) | refine qy (h := ?_) | refine qa ?_ | refine qc ?_ | refine ql ?_ | refine qp ?_ | refine z0a ?_ | rfl
     | (with_reducible first | refine ok_lt ?_ ?_ | refine ok_le ?_ ?_ | refine z0h ?_ ?_ | refine z0k ?_ ?_ | refine z0m ?_ ?_ | refine qu ?_ ?_ | refine ok_if ?_ ?_) <;> intro _ <;> try (exfalso; omega)
   exact .inr rfl
 · unfold z7b zja
   dsimp only
   repeat' first
     | (dsimp only [Int.toNat_natCast, List.length_nil])
     | ((with_reducible refine z0z ?_ ?_) <;> intro _ <;> try (exfalso; omega))
     | with_reducible first | refine z0f ?_ | refine z0g ?_ | refine z0d ?_ | refine z0e ?_ | refine z0b ?_ | refine z0i ?_ | refine qs ?_ | refine qb ?_ | refine z0j ?_ | refine qw ?_ | refine z0n ?_ | refine z0l ?_ | refine qi ?_ | refine qg (h := ?_) | refine qx (h := ?_) | refine qy (h := ?_) | refine qa ?_ | refine qc ?_ | refine ql ?_ | refine qp ?_ | refine z0a ?_ | rfl
     | (with_reducible first | refine ok_lt ?_ ?_ | refine ok_le ?_ ?_ | refine z0h ?_ ?_ | refine z0k ?_ ?_ | refine z0m ?_ ?_ | refine qu ?_ ?_ | refine ok_if ?_ ?_) <;> intro _ <;> try (exfalso; omega)
   · rename_i h1 h2
     refine .inl ⟨rfl, i, hi, rfl, ?_, hI⟩
     exact h2
   · rename_i h1 h2
     refine ⟨(), by rw [z0r (by omega)]; rfl, fun j hj hlt => ?_⟩
     by_cases e : j = i
     · subst e; exact h2
     · exact hI j hj (by omega)
theorem z1ns (n : Int) (hn : n ≤ 1000) : Ok (zoi n) fun r => r.length = n.toNat := by
 unfold zoi
 refine z0a (z1o n.toNat (fun i _ => (n, List.replicate i (0 : Int), (i : Int))) (fun _ (_ : Unit) => True) () rfl trivial (fun _ _ => ?_) fun i _ hi _ => ?_)
 · unfold z4v zfr
   dsimp only
   repeat' first
     | (dsimp only [Int.toNat_natCast, List.length_nil])
     | ((with_reducible refine z0z ?_ ?_) <;> intro _ <;> try (exfalso; omega))
     | with_reducible first | refine z0f ?_ | refine z0g ?_ | refine z0d ?_ | refine z0e ?_ | refine z0b ?_ | refine z0i ?_ | refine qs ?_ | refine qb ?_ | refine z0j ?_ | refine qw ?_ | refine z0n ?_ | refine z0l ?_ | refine qi ?_ | refine qg (h := ?_) | refine qx (h := ?_) | refine qy (h := ?_) | refine qa ?_ | refine qc ?_ | refine ql ?_ | refine qp ?_ | refine z0a ?_ | rfl
     | (with_reducible first | refine ok_lt ?_ ?_ | refine ok_le ?_ ?_ | refine z0h ?_ ?_ | refine z0k ?_ ?_ | refine z0m ?_ ?_ | refine qu ?_ ?_ | refine ok_if ?_ ?_) <;> intro _ <;> try (exfalso; omega)
   exact List.length_replicate ..
 · unfold z4v zfr
   dsimp only
   repeat' first
     | (dsimp only [Int.toNat_natCast, List.length_nil])
     | ((with_reducible refine z0z ?_ ?_) <;> intro _ <;> try (exfalso; omega))
     | with_reducible first | refine z0f ?_ | refine z0g ?_ | refine z0d ?_ | refine z0e ?_ | refine z0b ?_ | refine z0i ?_ | refine qs ?_ | refine qb ?_ | refine z0j ?_ | refine qw ?_ | refine z0n ?_ | refine z0l ?_ | refine qi ?_ | refine qg (h := ?_) | refine qx (h := ?_) | refine qy (h := ?_) | refine qa ?_ | refine qc ?_ | refine ql ?_ | refine qp ?_ | refine z0a ?_ | rfl
     | (with_reducible first | refine ok_lt ?_ ?_ | refine ok_le ?_ ?_ | refine z0h ?_ ?_ | refine z0k ?_ ?_ | refine z0m ?_ ?_ | refine qu ?_ ?_ | refine ok_if ?_ ?_) <;> intro _ <;> try (exfalso; omega)
   exact ⟨(), by rw [z0r (by omega), List.replicate_succ' (n := i)]; rfl, trivial⟩
theorem z1so (data : List Int) (n : Int) (hd : data.length ≤ 250) : Ok (zzp data n) fun r => r.1.length ≤ 250 := by
 unfold zzp
 repeat' first
   | (dsimp only [Int.toNat_natCast, List.length_nil])
   | ((with_reducible refine z1f (z1ns _ ?_) ?_))
   | ((with_reducible refine z0z ?_ ?_) <;> intro _ <;> try (exfalso; omega))
   | with_reducible first | refine z0f ?_ | refine z0g ?_ | refine z0d ?_ | refine z0e ?_ | refine z0b ?_ | refine z0i ?_ | refine qs ?_ | refine qb ?_ | refine z0j ?_ | refine qw ?_ | refine z0n ?_ | refine z0l ?_ | refine qi ?_ | refine qg (h := ?_) | refine qx (h := ?_) | refine qy (h := ?_) | refine qa ?_ | refine qc ?_ | refine ql ?_ | refine qp ?_ | refine z0a ?_ | rfl
   | (with_reducible first | refine ok_lt ?_ ?_ | refine ok_le ?_ ?_ | refine z0h ?_ ?_ | refine z0k ?_ ?_ | refine z0m ?_ ?_ | refine qu ?_ ?_ | refine ok_if ?_ ?_) <;> intro _ <;> try (exfalso; omega)
 · exact Nat.zero_le _
 · exact Nat.zero_le _
 · rw [z0r (by omega)]; omega
 · intro r hr
   rw [z0r (by omega)] at hr
   repeat' first
     | (dsimp only [Int.toNat_natCast, List.length_nil])
     | ((with_reducible refine z0z ?_ ?_) <;> intro _ <;> try (exfalso; omega))
     | with_reducible first | refine z0f ?_ | refine z0g ?_ | refine z0d ?_ | refine z0e ?_ | refine z0b ?_ | refine z0i ?_ | refine qs ?_ | refine qb ?_ | refine z0j ?_ | refine qw ?_ | refine z0n ?_ | refine z0l ?_ | refine qi ?_ | refine qg (h := ?_) | refine qx (h := ?_) | refine qy (h := ?_) | refine qa ?_ | refine qc ?_ | refine ql ?_ | refine qp ?_ | refine z0a ?_ | rfl
     | (with_reducible first | refine ok_lt ?_ ?_ | refine ok_le ?_ ?_ | refine z0h ?_ ?_ | refine z0k ?_ ?_ | refine z0m ?_ ?_ | refine qu ?_ ?_ | refine ok_if ?_ ?_) <;> intro _ <;> try (exfalso; omega)
   show (subL _ _ _).length ≤ 250
   unfold subL; simp; omega
theorem z1oi (data : List Int) (off : Int) (t : List Int) (hd : data.length ≤ 250) (ht : t.length ≤ 250) (ho : -9223372036854775808 ≤ off ∧ off ≤ 9223372036854775807) : Ok (zti data off t) fun r => r.1.length ≤ 250 := by
 unfold zti
 by_cases h0 : off < 0
 · repeat' first
     | (dsimp only [Int.toNat_natCast, List.length_nil])
     | ((with_reducible refine z0z ?_ ?_) <;> intro _ <;> try (exfalso; omega))
     | with_reducible first | refine z0f ?_ | refine z0g ?_ | refine z0d ?_ | refine z0e ?_ | refine z0b ?_ | refine z0i ?_ | refine qs ?_ | refine qb ?_ | refine z0j ?_ | refine qw ?_ | refine z0n ?_ | refine z0l ?_ | refine qi ?_ | refine qg (h := ?_) | refine qx (h := ?_) | refine qy (h := ?_) | refine qa ?_ | refine qc ?_ | refine ql ?_ | refine qp ?_ | refine z0a ?_ | rfl
     | (with_reducible first | refine ok_lt ?_ ?_ | refine ok_le ?_ ?_ | refine z0h ?_ ?_ | refine z0k ?_ ?_ | refine z0m ?_ ?_ | refine qu ?_ ?_ | refine ok_if ?_ ?_) <;> intro _ <;> try (exfalso; omega)
   exact Nat.zero_le _
 by_cases h1 : 200 < off
 · repeat' first
     | (dsimp only [Int.toNat_natCast, List.length_nil])
     | ((with_reducible refine z0z ?_ ?_) <;> intro _ <;> try (exfalso; omega))
     | with_reducible first | refine z0f ?_ | refine z0g ?_ | refine z0d ?_ | refine z0e ?_ | refine z0b ?_ | refine z0i ?_ | refine qs ?_ | refine qb ?_ | refine z0j ?_ | refine qw ?_ | refine z0n ?_ | refine z0l ?_ | refine qi ?_ | refine qg (h := ?_) | refine qx (h := ?_) | refine qy (h := ?_) | refine qa ?_ | refine qc ?_ | refine ql ?_ | refine qp ?_ | refine z0a ?_ | rfl
     | (with_reducible first | refine ok_lt ?_ ?_ | refine ok_le ?_ ?_ | refine z0h ?_ ?_ | refine z0k ?_ ?_ | refine z0m ?_ ?_ | refine qu ?_ ?_ | refine ok_if ?_ ?_) <;> intro _ <;> try (exfalso; omega)
   exact Nat.zero_le _
 rw [z0r (n := off + (t.length : Nat)) (by omega), z0r (n := off + (t.length : Nat) - (data.length : Nat)) (by omega)]
 repeat' first
   | (dsimp only [Int.toNat_natCast, List.length_nil])
   | ((with_reducible refine z1f (z1ns _ (by omega)) ?_))
   | ((with_reducible refine z0z ?_ ?_) <;> intro _ <;> try (exfalso; omega))
   | with_reducible first | refine z0f ?_ | refine z0g ?_ | refine z0d ?_ | refine z0e ?_ | refine z0b ?_ | refine z0i ?_ | refine qs ?_ | refine qb ?_ | refine z0j ?_ | refine qw ?_ | refine z0n ?_ | refine z0l ?_ | refine qi ?_ | refine qg (h := ?_) | refine qx (h := ?_) | refine qy (h := ?_) | refine qa ?_ | refine qc ?_ | refine ql ?_ | refine qp ?_ | refine z0a ?_ | rfl
   | (with_reducible first | refine ok_lt ?_ ?_ | refine ok_le ?_ ?_ | refine z0h ?_ ?_ | refine z0k ?_ ?_ | refine z0m ?_ ?_ | refine qu ?_ ?_ | refine ok_if ?_ ?_) <;> intro _ <;> try (exfalso; omega)
 · exact Nat.zero_le _
 · exact Nat.zero_le _
 · intro r hr
   have e1 : (subL (data ++ r) 0 off).length = off.toNat := by unfold subL; simp; omega
   have e2 : (subL (data ++ r) (off + (t.length : Nat)) (((data ++ r).length : Nat) : Int)).length ≤ 250 := by unfold subL; simp; omega
   simp only [List.length_append] at e2
   repeat' first
     | (dsimp only [Int.toNat_natCast, List.length_nil])
     | ((with_reducible refine z0z ?_ ?_) <;> intro _ <;> try (exfalso; omega))
     | with_reducible first | refine z0f ?_ | refine z0g ?_ | refine z0d ?_ | refine z0e ?_ | refine z0b ?_ | refine z0i ?_ | refine qs ?_ | refine qb ?_ | refine z0j ?_ | refine qw ?_ | refine z0n ?_ | refine z0l ?_ | refine qi ?_ | refine qg (h := ?_) | refine qx (h := ?_) | refine qy (h := ?_) | refine qa ?_ | refine qc ?_ | refine ql ?_ | refine qp ?_ | refine z0a ?_ | rfl
     | (with_reducible first | refine ok_lt ?_ ?_ | refine ok_le ?_ ?_ | refine z0h ?_ ?_ | refine z0k ?_ ?_ | refine z0m ?_ ?_ | refine qu ?_ ?_ | refine ok_if ?_ ?_) <;> intro _ <;> try (exfalso; omega)
   · rw [List.length_append, List.length_append, e1]
     have : (subL (data ++ r) (off + (t.length : Nat)) (((data ++ r).length : Nat) : Int)).length = (data ++ r).length - (off + (t.length : Nat)).toNat := by unfold subL; simp; omega
     rw [this, List.length_append]; omega
theorem z1rr : MonoR zk2 := by
 intro r r' h x y hy
 unfold zk2 zou at *
 rw [Option.bind_eq_some_iff] at hy ⊢
 obtain ⟨f, h1, h2⟩ := hy
 refine ⟨f, h1, ?_⟩
 cases hf : f.2 with
 | false => rw [hf] at h2; exact h2
 | true =>
   rw [hf] at h2
   simp only [Bool.not_true, cond_false] at h2 ⊢
   cases hk : eqI f.1.2.2.1 5 with
   | true => rw [hk] at h2; exact h2
   | false =>
     rw [hk] at h2
     simp only [cond_false] at h2 ⊢
     rw [Option.bind_eq_some_iff] at h2 ⊢
     obtain ⟨j, h3, h4⟩ := h2
     refine ⟨j, ?_, h4⟩
     unfold z0s at h3 ⊢
     cases hb : Nat.ble f.1.2.2.2.2.2.2.2.1.length 9223372036854775807 with
     | false => rw [hb] at h3; cases h3
     | true =>
       rw [hb] at h3
       simp only [cond_true] at h3 ⊢
       cases hl : ltI 0 ((f.1.2.2.2.2.2.2.2.1.length : Nat) : Int) with
       | false => rw [hl] at h3; exact h3
       | true =>
         rw [hl] at h3
         simp only [cond_true] at h3 ⊢
         rw [Option.bind_eq_some_iff] at h3 ⊢
         obtain ⟨b, h5, h6⟩ := h3
         refine ⟨b, h5, ?_⟩
         rw [Option.bind_eq_some_iff] at h6 ⊢
         obtain ⟨d, h7, h8⟩ := h6
         exact ⟨d, h _ _ h7, h8⟩
theorem z1n1 {l : List T1} (hl : l.length ≤ 1000) (hin : ∀ e, e ∈ l → EvIn e) (hc : Chain l) : ∀ (k : Nat) (x : T0), (∀ i (h : i < l.length), l[i].1 = x → (∀ j (hj : j < l.length), j < i → ¬ l[j].1 = x) → i < k) → Ok (iterR zk2 (k + 1) (l, x)) fun d => d.length ≤ 250
 | k, x, hk => by
   show Ok (zou (iterR zk2 k) l x) _
   unfold zou
   refine z1f (z1xc l x hl) fun f hf => ?_
   rcases hf with ⟨f1, i, hi, f2, f3, f4⟩ | f1
   · rw [f1]
     have he := hin _ (List.getElem_mem hi)
     have hik := hk i hi f3 f4
     have hb10 := he.base
     simp only [zi4] at hb10
     rw [← f2] at he hb10
     obtain ⟨e, b⟩ := f
     simp only at f1 f2 he hb10 ⊢
     repeat' first
       | (dsimp only [Int.toNat_natCast, List.length_nil])
       | ((with_reducible refine z0z ?_ ?_) <;> intro _ <;> try (exfalso; omega))
       | with_reducible first | refine z0f ?_ | refine z0g ?_ | refine z0d ?_ | refine z0e ?_ | refine z0b ?_ | refine z0i ?_ | refine qs ?_ | refine qb ?_ | refine z0j ?_ | refine qw ?_ | refine z0n ?_ | refine z0l ?_ | refine qi ?_ | refine qg (h := ?_) | refine qx (h := ?_) | refine qy (h := ?_) | refine qa ?_ | refine qc ?_ | refine ql ?_ | refine qp ?_ | refine z0a ?_ | rfl
       | (with_reducible first | refine ok_lt ?_ ?_ | refine ok_le ?_ ?_ | refine z0h ?_ ?_ | refine z0k ?_ ?_ | refine z0m ?_ ?_ | refine qu ?_ ?_ | refine ok_if ?_ ?_) <;> intro _ <;> try (exfalso; omega)
     · exact he.data
     · rename_i h5 h6
       have hb0 : 0 < (zi4 e).length := by simp only [zi4]; omega
       refine z8o (R := fun d : List Int => d.length ≤ 250) ?_ fun d hd => ?_
       · obtain ⟨j, hj, hji, ej⟩ := hc i hi (zi4 e)[0] (by rw [← f2, getE hb0])
         obtain ⟨k', rfl⟩ : ∃ k', k = k' + 1 := ⟨k - 1, by omega⟩
         refine z1n1 hl hin hc k' _ fun i' h' e1 e2 => ?_
         have : i' ≤ j := by
           apply Classical.byContradiction
           intro hlt
           exact e2 j hj (by omega) ej
         omega
       · repeat' first
           | (dsimp only [Int.toNat_natCast, List.length_nil])
           | ((with_reducible refine z0z ?_ ?_) <;> intro _ <;> try (exfalso; omega))
           | with_reducible first | refine z0f ?_ | refine z0g ?_ | refine z0d ?_ | refine z0e ?_ | refine z0b ?_ | refine z0i ?_ | refine qs ?_ | refine qb ?_ | refine z0j ?_ | refine qw ?_ | refine z0n ?_ | refine z0l ?_ | refine qi ?_ | refine qg (h := ?_) | refine qx (h := ?_) | refine qy (h := ?_) | refine qa ?_ | refine qc ?_ | refine ql ?_ | refine qp ?_ | refine z0a ?_ | rfl
           | (with_reducible first | refine ok_lt ?_ ?_ | refine ok_le ?_ ?_ | refine z0h ?_ ?_ | refine z0k ?_ ?_ | refine z0m ?_ ?_ | refine qu ?_ ?_ | refine ok_if ?_ ?_) <;> intro _ <;> try (exfalso; omega)
         · refine z8o (z1so _ _ hd) fun _ h => ?_
           exact z0d h
         · refine z8o (z1oi _ _ _ hd he.data he.off) fun _ h => ?_
           exact z0d h
     · refine z8o (z1so _ _ (Nat.zero_le _)) fun _ h => ?_
       exact z0d h
     · refine z8o (z1oi _ _ _ (Nat.zero_le _) he.data he.off) fun _ h => ?_
       exact z0d h
   · rw [f1]
     repeat' first
       | (dsimp only [Int.toNat_natCast, List.length_nil])
       | ((with_reducible refine z0z ?_ ?_) <;> intro _ <;> try (exfalso; omega))
       | with_reducible first | refine z0f ?_ | refine z0g ?_ | refine z0d ?_ | refine z0e ?_ | refine z0b ?_ | refine z0i ?_ | refine qs ?_ | refine qb ?_ | refine z0j ?_ | refine qw ?_ | refine z0n ?_ | refine z0l ?_ | refine qi ?_ | refine qg (h := ?_) | refine qx (h := ?_) | refine qy (h := ?_) | refine qa ?_ | refine qc ?_ | refine ql ?_ | refine qp ?_ | refine z0a ?_ | rfl
       | (with_reducible first | refine ok_lt ?_ ?_ | refine ok_le ?_ ?_ | refine z0h ?_ ?_ | refine z0k ?_ ?_ | refine z0m ?_ ?_ | refine qu ?_ ?_ | refine ok_if ?_ ?_) <;> intro _ <;> try (exfalso; omega)
     exact Nat.zero_le _
theorem z1hb {l : List T1} (hl : l.length ≤ 1000) (hin : ∀ e, e ∈ l → EvIn e) (hc : Chain l) (x : T0) : Ok (z11v l x) fun d => d.length ≤ 250 :=
 z1xm z1rr (z1n1 hl hin hc l.length x fun i h _ _ => h)
end Go.Proofs.Ytfbdjicfkcklfaa
set_option maxRecDepth 100000
set_option linter.unusedSimpArgs false
set_option linter.unusedVariables false
namespace Go.Proofs.Ytfbdjicfkcklfaa
open Go.Tm Go.Ab
def z6q (l : List T1) : List Int := l.foldl (fun v e => withV v e.1) zeroV
theorem z1hh (l : List T1) (e : T1) : z6q (l ++ [e]) = withV (z6q l) e.1 := by simp [z6q]
theorem z1fz : ∀ (l : List T1) (v : List Int), VecOk v → natV v → VecOk (l.foldl (fun v e => withV v e.1) v) ∧ natV (l.foldl (fun v e => withV v e.1) v) ∧ leV v (l.foldl (fun v e => withV v e.1) v)
 | [], v, h, g => ⟨h, g, z1nj v⟩
 | e :: l, v, h, g => by
   obtain ⟨h1, h2, h3⟩ := z1fz l (withV v e.1) (zj9 h _) (zpo h (zew _) g)
   exact ⟨h1, h2, z11k (z16l h (zew _)) h3⟩
theorem z1dt : ∀ (l : List T1) (v : List Int), VecOk v → natV v → ∀ e, e ∈ l → 1 ≤ e.1.1 ∧ e.1.1 ≤ 8 → zrh (l.foldl (fun v e => withV v e.1) v) e.1
 | a :: l, v, h, g, e, he, hr => by
   have hw := zj9 h a.1
   have hn := zpo h (zew a.1) g
   rcases List.mem_cons.1 he with rfl | he
   · exact z1ej (z1fz l _ hw hn).2.2 (z1eo h hr)
   · exact z1dt l _ hw hn e he hr
theorem zca (l : List T1) : VecOk (z6q l) ∧ natV (z6q l) := by
 obtain ⟨h1, h2, _⟩ := z1fz l zeroV zsv z10k
 exact ⟨h1, h2⟩
theorem z1ot (l : List T1) (hl : l.length ≤ 1000) : znp l = some (z6q l) := by
 refine ok_is ?_
 unfold znp
 refine z0a (z1o l.length (fun i _ => (l, (i : Int), List.replicate 8 (0 : Int), z6q (l.take i))) (fun _ (_ : Unit) => True) () rfl trivial (fun _ _ => ?_) fun i _ hi _ => ?_)
 · unfold z4y zfs
   dsimp only
   repeat' first
     | (dsimp only [Int.toNat_natCast, List.length_nil])
     | ((with_reducible refine z0z ?_ ?_) <;> intro _ <;> try (exfalso; omega))
     | with_reducible first | refine z0f ?_ | refine z0g ?_ | refine z0d ?_ | refine z0e ?_ | refine z0b ?_ | refine z0i ?_ | refine qs ?_ | refine qb ?_ | refine z0j ?_ | refine qw ?_ | refine z0n ?_ | refine z0l ?_ | refine qi ?_ | refine qg (h := ?_) | refine qx (h := ?_) | refine qy (h := ?_) | refine qa ?_ | refine qc ?_ | refine ql ?_ | refine qp ?_ | refine z0a ?_ | rfl
     | (with_reducible first | refine ok_lt ?_ ?_ | refine ok_le ?_ ?_ | refine z0h ?_ ?_ | refine z0k ?_ ?_ | refine z0m ?_ ?_ | refine qu ?_ ?_ | refine ok_if ?_ ?_) <;> intro _ <;> try (exfalso; omega)
   rw [List.take_length]
 · unfold z4y zfs
   dsimp only
   repeat' first
     | (dsimp only [Int.toNat_natCast, List.length_nil])
     | ((with_reducible refine ok_eq (zk5 (zca _).1 _) ?_))
     | ((with_reducible refine z0z ?_ ?_) <;> intro _ <;> try (exfalso; omega))
     | with_reducible first | refine z0f ?_ | refine z0g ?_ | refine z0d ?_ | refine z0e ?_ | refine z0b ?_ | refine z0i ?_ | refine qs ?_ | refine qb ?_ | refine z0j ?_ | refine qw ?_ | refine z0n ?_ | refine z0l ?_ | refine qi ?_ | refine qg (h := ?_) | refine qx (h := ?_) | refine qy (h := ?_) | refine qa ?_ | refine qc ?_ | refine ql ?_ | refine qp ?_ | refine z0a ?_ | rfl
     | (with_reducible first | refine ok_lt ?_ ?_ | refine ok_le ?_ ?_ | refine z0h ?_ ?_ | refine z0k ?_ ?_ | refine z0m ?_ ?_ | refine qu ?_ ?_ | refine ok_if ?_ ?_) <;> intro _ <;> try (exfalso; omega)
   exact ⟨(), by rw [z0r (by omega), List.take_succ_eq_append_getElem hi, z1hh]; rfl, trivial⟩
structure Evs (l : List T1) (K : List Int) : Prop where
 len : l.length ≤ 1000
 ev : ∀ e, e ∈ l → EvIn e
 chain : Chain l
 rep : ∀ e, e ∈ l → 1 ≤ e.1.1 ∧ e.1.1 ≤ 8
 vec : VecOk K
 nat : natV K
 means : ∀ e, e ∈ l → zrh K e.1
 dep : ∀ e, e ∈ l → leV e.2.1 K
structure ByOk (K b : List Int) : Prop where
 v : VecOk b
 n : natV b
 le : leV b K
theorem ByOk.zero {l : List T1} {K : List Int} (h : Evs l K) : ByOk K (List.replicate 8 (0 : Int)) := ⟨zsv, z10k, fun i hi => by have := z1fa i; unfold zeroV at this; rw [this]; exact h.nat i hi⟩
theorem ByOk.join {K a b : List Int} (h : ByOk K a) (g : ByOk K b) : ByOk K (joinV a b) := ⟨z16g h.v g.v, zpo h.v g.v h.n, z1nd h.v g.v h.le g.le⟩
theorem ByOk.with {l : List T1} {K a : List Int} (h : Evs l K) (g : ByOk K a) {e : T1} (he : e ∈ l) : ByOk K (withV a e.1) := ⟨zj9 g.v _, zpo g.v (zew _) g.n, z1f9 g.v g.le h.nat (h.means e he)⟩
structure EntOk (l : List T1) (K : List Int) (x : T2) : Prop where
 by' : ByOk K x.2.2.2.2
 ev : ∃ e, e ∈ l ∧ (zge e = 1 ∨ zge e = 2 ∨ zge e = 7) ∧ x.1 = e.1 ∧ x.2.1 = e.2.2.2.2.1 ∧ x.2.2.1 = e.2.2.2.2.2.1 ∧ x.2.2.2.1 = if zge e = 7 then e.2.2.2.1 else e.1
theorem z1sm {P : T2 → Prop} (hv : ∀ y, P y → VecOk y.2.2.2.2) (hj : ∀ y z, P y → P z → P (y.1, y.2.1, y.2.2.1, y.2.2.2.1, joinV y.2.2.2.2 z.2.2.2.2)) (l : List T2) (x : T2) (hl : l.length ≤ 2000) (hp : ∀ y, y ∈ l → P y) (hx : P x) :
   Ok (zg1 l x) fun r => r.length ≤ l.length + 1 ∧ ∀ y, y ∈ r → P y := by
 unfold zg1
 repeat' first
   | (dsimp only [Int.toNat_natCast, List.length_nil])
   | ((with_reducible refine z0z ?_ ?_) <;> intro _ <;> try (exfalso; omega))
   | with_reducible first | refine z0f ?_ | refine z0g ?_ | refine z0d ?_ | refine z0e ?_ | refine z0b ?_ | refine z0i ?_ | refine qs ?_ | refine qb ?_ | refine z0j ?_ | refine qw ?_ | refine z0n ?_ | refine z0l ?_ | refine qi ?_ | refine qg (h := ?_) | refine qx (h := ?_) | refine qy (h := ?_) | refine qa ?_ | refine qc ?_ | refine ql ?_ | refine qp ?_ | refine z0a ?_ | rfl
   | (with_reducible first | refine ok_lt ?_ ?_ | refine ok_le ?_ ?_ | refine z0h ?_ ?_ | refine z0k ?_ ?_ | refine z0m ?_ ?_ | refine qu ?_ ?_ | refine ok_if ?_ ?_) <;> intro _ <;> try (exfalso; omega)
 refine z1o l.length (fun i (a : Bool × List T2) => (l, a.1, (i : Int), x, a.2)) (fun i a => a.2.length ≤ i + (if a.1 = true then 1 else 0) ∧ ∀ y, y ∈ a.2 → P y) (false, []) rfl ⟨Nat.zero_le _, fun y hy => by cases hy⟩ (fun a ha => ?_) fun i a hi ha => ?_
 · obtain ⟨put, out⟩ := a
   obtain ⟨h1, h2⟩ := ha
   unfold z3o zce
   dsimp only
   simp only at h1 h2
   have hb : out.length ≤ l.length + 1 := by split at h1 <;> omega
   cases put with
   | true =>
     repeat' first
       | (dsimp only [Int.toNat_natCast, List.length_nil])
       | ((with_reducible refine z0z ?_ ?_) <;> intro _ <;> try (exfalso; omega))
       | with_reducible first | refine z0f ?_ | refine z0g ?_ | refine z0d ?_ | refine z0e ?_ | refine z0b ?_ | refine z0i ?_ | refine qs ?_ | refine qb ?_ | refine z0j ?_ | refine qw ?_ | refine z0n ?_ | refine z0l ?_ | refine qi ?_ | refine qg (h := ?_) | refine qx (h := ?_) | refine qy (h := ?_) | refine qa ?_ | refine qc ?_ | refine ql ?_ | refine qp ?_ | refine z0a ?_ | rfl
       | (with_reducible first | refine ok_lt ?_ ?_ | refine ok_le ?_ ?_ | refine z0h ?_ ?_ | refine z0k ?_ ?_ | refine z0m ?_ ?_ | refine qu ?_ ?_ | refine ok_if ?_ ?_) <;> intro _ <;> try (exfalso; omega)
     exact ⟨hb, h2⟩
   | false =>
     simp only [Bool.false_eq_true, if_false] at h1
     repeat' first
       | (dsimp only [Int.toNat_natCast, List.length_nil])
       | ((with_reducible refine z0z ?_ ?_) <;> intro _ <;> try (exfalso; omega))
       | with_reducible first | refine z0f ?_ | refine z0g ?_ | refine z0d ?_ | refine z0e ?_ | refine z0b ?_ | refine z0i ?_ | refine qs ?_ | refine qb ?_ | refine z0j ?_ | refine qw ?_ | refine z0n ?_ | refine z0l ?_ | refine qi ?_ | refine qg (h := ?_) | refine qx (h := ?_) | refine qy (h := ?_) | refine qa ?_ | refine qc ?_ | refine ql ?_ | refine qp ?_ | refine z0a ?_ | rfl
       | (with_reducible first | refine ok_lt ?_ ?_ | refine ok_le ?_ ?_ | refine z0h ?_ ?_ | refine z0k ?_ ?_ | refine z0m ?_ ?_ | refine qu ?_ ?_ | refine ok_if ?_ ?_) <;> intro _ <;> try (exfalso; omega)
     refine ⟨by simp; omega, fun y hy => ?_⟩
     rcases List.mem_append.1 hy with hy | hy
     · exact h2 y hy
     · simp only [List.mem_singleton] at hy; subst hy; exact hx
 · obtain ⟨put, out⟩ := a
   obtain ⟨h1, h2⟩ := ha
   unfold z3o zce
   dsimp only
   simp only at h1 h2
   have hb : out.length ≤ i + 1 := by split at h1 <;> omega
   have hpi := hp _ (List.getElem_mem hi)
   have add : ∀ (o : List T2) (z : T2), (∀ y, y ∈ o → P y) → P z → ∀ y, y ∈ o ++ [z] → P y := fun o z ho hz y hy => by
     rcases List.mem_append.1 hy with hy | hy
     · exact ho y hy
     · simp only [List.mem_singleton] at hy; subst hy; exact hz
   repeat' first
     | (dsimp only [Int.toNat_natCast, List.length_nil])
     | ((with_reducible refine ok_eq (z1cy (hv _ hpi) (hv _ hx)) ?_))
     | ((with_reducible refine ok_eq (zt0 _ _) ?_))
     | ((with_reducible refine z0z ?_ ?_) <;> intro _ <;> try (exfalso; omega))
     | with_reducible first | refine z0f ?_ | refine z0g ?_ | refine z0d ?_ | refine z0e ?_ | refine z0b ?_ | refine z0i ?_ | refine qs ?_ | refine qb ?_ | refine z0j ?_ | refine qw ?_ | refine z0n ?_ | refine z0l ?_ | refine qi ?_ | refine qg (h := ?_) | refine qx (h := ?_) | refine qy (h := ?_) | refine qa ?_ | refine qc ?_ | refine ql ?_ | refine qp ?_ | refine z0a ?_ | rfl
     | (with_reducible first | refine ok_lt ?_ ?_ | refine ok_le ?_ ?_ | refine z0h ?_ ?_ | refine z0k ?_ ?_ | refine z0m ?_ ?_ | refine qu ?_ ?_ | refine ok_if ?_ ?_) <;> intro _ <;> try (exfalso; omega)
   · refine ⟨(true, _), by rw [z0r (by omega)]; rfl, ?_, add _ _ h2 (hj _ _ hpi hx)⟩
     simp only [if_true, List.length_append, List.length_singleton]; split at h1 <;> omega
   · rename_i e1
     subst e1
     simp only [if_true] at h1
     refine ⟨(true, _), by rw [z0r (by omega)]; rfl, ?_, add _ _ h2 hpi⟩
     simp only [if_true, List.length_append, List.length_singleton]; omega
   · rename_i e1 _
     subst e1
     simp only [Bool.false_eq_true, if_false] at h1
     refine ⟨(true, _), by rw [z0r (by omega)]; rfl, ?_, add _ _ (add _ _ h2 hx) hpi⟩
     simp only [if_true, List.length_append, List.length_singleton]; omega
   · rename_i e1 _
     subst e1
     simp only [Bool.false_eq_true, if_false] at h1
     refine ⟨(false, _), by rw [z0r (by omega)]; rfl, ?_, add _ _ h2 hpi⟩
     simp only [Bool.false_eq_true, if_false, List.length_append, List.length_singleton]; omega
theorem z1wa {l : List T1} {K : List Int} (E : Evs l K) (out : List T2) (n : Int) (x : T2) (hx : ByOk K x.2.2.2.2) :
   Ok (loopC z0v (l, out, n, 0, x)) fun r => ∃ b, ByOk K b ∧ r = (l, out, n, (x.1, x.2.1, x.2.2.1, x.2.2.2.1, b)) := by
 have hl := E.len
 refine z1o l.length (fun k (b : List Int) => (l, out, n, (k : Int), (x.1, x.2.1, x.2.2.1, x.2.2.2.1, b))) (fun _ b => ByOk K b) x.2.2.2.2 rfl hx (fun b hb => ?_) fun k b hk hb => ?_
 · unfold z0v z1z
   dsimp only
   repeat' first
     | (dsimp only [Int.toNat_natCast, List.length_nil])
     | ((with_reducible refine z0z ?_ ?_) <;> intro _ <;> try (exfalso; omega))
     | with_reducible first | refine z0f ?_ | refine z0g ?_ | refine z0d ?_ | refine z0e ?_ | refine z0b ?_ | refine z0i ?_ | refine qs ?_ | refine qb ?_ | refine z0j ?_ | refine qw ?_ | refine z0n ?_ | refine z0l ?_ | refine qi ?_ | refine qg (h := ?_) | refine qx (h := ?_) | refine qy (h := ?_) | refine qa ?_ | refine qc ?_ | refine ql ?_ | refine qp ?_ | refine z0a ?_ | rfl
     | (with_reducible first | refine ok_lt ?_ ?_ | refine ok_le ?_ ?_ | refine z0h ?_ ?_ | refine z0k ?_ ?_ | refine z0m ?_ ?_ | refine qu ?_ ?_ | refine ok_if ?_ ?_) <;> intro _ <;> try (exfalso; omega)
   exact ⟨b, hb, rfl⟩
 · unfold z0v z1z
   dsimp only
   have go := (E.ev _ (List.getElem_mem hk)).gone
   have hw := ByOk.with E hb (List.getElem_mem hk)
   obtain ⟨e1, e2⟩ := in_is (z19z l[k]) x.1 (by omega)
   repeat' first
     | (dsimp only [Int.toNat_natCast, List.length_nil])
     | ((with_reducible refine ok_eq e2 ?_))
     | ((with_reducible refine ok_eq (zk5 hb.v _) ?_))
     | ((with_reducible refine z0z ?_ ?_) <;> intro _ <;> try (exfalso; omega))
     | with_reducible first | refine z0f ?_ | refine z0g ?_ | refine z0d ?_ | refine z0e ?_ | refine z0b ?_ | refine z0i ?_ | refine qs ?_ | refine qb ?_ | refine z0j ?_ | refine qw ?_ | refine z0n ?_ | refine z0l ?_ | refine qi ?_ | refine qg (h := ?_) | refine qx (h := ?_) | refine qy (h := ?_) | refine qa ?_ | refine qc ?_ | refine ql ?_ | refine qp ?_ | refine z0a ?_ | rfl
     | (with_reducible first | refine ok_lt ?_ ?_ | refine ok_le ?_ ?_ | refine z0h ?_ ?_ | refine z0k ?_ ?_ | refine z0m ?_ ?_ | refine qu ?_ ?_ | refine ok_if ?_ ?_) <;> intro _ <;> try (exfalso; omega)
   all_goals first
     | exact ⟨withV b l[k].1, by rw [z0r (by omega)]; rfl, hw⟩
     | exact ⟨b, by rw [z0r (by omega)]; rfl, hb⟩
theorem z1hp {l : List T1} {K : List Int} (E : Evs l K) : Ok (ze2 l) fun r => r.length ≤ l.length ∧ (∀ x, x ∈ r → EntOk l K x) := by
 have hl := E.len
 unfold ze2
 refine z0a (z1o l.length (fun i (a : List T2) => (l, a, (i : Int))) (fun i a => a.length ≤ i ∧ ∀ x, x ∈ a → EntOk l K x) [] rfl ⟨Nat.zero_le _, fun x hx => by cases hx⟩ (fun a ha => ?_) fun i a hi ha => ?_)
 · unfold z2s z8h
   dsimp only
   repeat' first
     | (dsimp only [Int.toNat_natCast, List.length_nil])
     | ((with_reducible refine z0z ?_ ?_) <;> intro _ <;> try (exfalso; omega))
     | with_reducible first | refine z0f ?_ | refine z0g ?_ | refine z0d ?_ | refine z0e ?_ | refine z0b ?_ | refine z0i ?_ | refine qs ?_ | refine qb ?_ | refine z0j ?_ | refine qw ?_ | refine z0n ?_ | refine z0l ?_ | refine qi ?_ | refine qg (h := ?_) | refine qx (h := ?_) | refine qy (h := ?_) | refine qa ?_ | refine qc ?_ | refine ql ?_ | refine qp ?_ | refine z0a ?_ | rfl
     | (with_reducible first | refine ok_lt ?_ ?_ | refine ok_le ?_ ?_ | refine z0h ?_ ?_ | refine z0k ?_ ?_ | refine z0m ?_ ?_ | refine qu ?_ ?_ | refine ok_if ?_ ?_) <;> intro _ <;> try (exfalso; omega)
   exact ha
 · unfold z2s z8h
   dsimp only
   have hm := List.getElem_mem hi
   have pok : ∀ x, EntOk l K x → Ok (zg1 a x) fun r => r.length ≤ i + 1 ∧ ∀ y, y ∈ r → EntOk l K y := fun x hx =>
     z8o (z1sm (fun y hy => hy.by'.v) (fun y z hy hz => ⟨hy.by'.join hz.by', hy.ev⟩) a x (by omega) ha.2 hx) fun r hr => ⟨by omega, hr.2⟩
   repeat' first
     | (dsimp only [Int.toNat_natCast, List.length_nil])
     | ((with_reducible refine z1f (z1wa E _ _ _ (ByOk.zero E)) ?_); rintro _ ⟨b, hb, rfl⟩)
     | ((with_reducible refine z1f (pok _ ⟨hb, _, hm, ?_⟩) ?_))
     | ((with_reducible refine z0z ?_ ?_) <;> intro _ <;> try (exfalso; omega))
     | with_reducible first | refine z0f ?_ | refine z0g ?_ | refine z0d ?_ | refine z0e ?_ | refine z0b ?_ | refine z0i ?_ | refine qs ?_ | refine qb ?_ | refine z0j ?_ | refine qw ?_ | refine z0n ?_ | refine z0l ?_ | refine qi ?_ | refine qg (h := ?_) | refine qx (h := ?_) | refine qy (h := ?_) | refine qa ?_ | refine qc ?_ | refine ql ?_ | refine qp ?_ | refine z0a ?_ | rfl
     | (with_reducible first | refine ok_lt ?_ ?_ | refine ok_le ?_ ?_ | refine z0h ?_ ?_ | refine z0k ?_ ?_ | refine z0m ?_ ?_ | refine qu ?_ ?_ | refine ok_if ?_ ?_) <;> intro _ <;> try (exfalso; omega)
   all_goals first
     | exact ⟨a, by rw [z0r (by omega)]; rfl, by omega, ha.2⟩
     | (rintro r ⟨g1, g2⟩
        repeat' first
          | (dsimp only [Int.toNat_natCast, List.length_nil])
          | ((with_reducible refine z0z ?_ ?_) <;> intro _ <;> try (exfalso; omega))
          | with_reducible first | refine z0f ?_ | refine z0g ?_ | refine z0d ?_ | refine z0e ?_ | refine z0b ?_ | refine z0i ?_ | refine qs ?_ | refine qb ?_ | refine z0j ?_ | refine qw ?_ | refine z0n ?_ | refine z0l ?_ | refine qi ?_ | refine qg (h := ?_) | refine qx (h := ?_) | refine qy (h := ?_) | refine qa ?_ | refine qc ?_ | refine ql ?_ | refine qp ?_ | refine z0a ?_ | rfl
          | (with_reducible first | refine ok_lt ?_ ?_ | refine ok_le ?_ ?_ | refine z0h ?_ ?_ | refine z0k ?_ ?_ | refine z0m ?_ ?_ | refine qu ?_ ?_ | refine ok_if ?_ ?_) <;> intro _ <;> try (exfalso; omega)
        exact ⟨r, by rw [z0r (by omega)]; rfl, g1, g2⟩)
     | (rename_i h1 h2
        exact ⟨.inl h1, rfl, rfl, rfl, by rw [if_neg h2]⟩)
     | (rename_i h1 h2
        exact ⟨.inr (.inl h1), rfl, rfl, rfl, by rw [if_neg h2]⟩)
     | (rename_i h1 h2
        exact ⟨.inr (.inr h1), rfl, rfl, rfl, by rw [if_pos h2]⟩)
theorem z1uw {l : List T1} {K : List Int} (E : Evs l K) (out : List T2) (n : Int) (x : T2) (hx : ByOk K x.2.2.2.2) :
   Ok (loopC z1c (out, n, 0, l, x)) fun r => ∃ b, ByOk K b ∧ r = (out, n, l, (x.1, x.2.1, x.2.2.1, x.2.2.2.1, b)) := by
 have hl := E.len
 refine z1o l.length (fun k (b : List Int) => (out, n, (k : Int), l, (x.1, x.2.1, x.2.2.1, x.2.2.2.1, b))) (fun _ b => ByOk K b) x.2.2.2.2 rfl hx (fun b hb => ?_) fun k b hk hb => ?_
 · unfold z1c z4i
   dsimp only
   repeat' first
     | (dsimp only [Int.toNat_natCast, List.length_nil])
     | ((with_reducible refine z0z ?_ ?_) <;> intro _ <;> try (exfalso; omega))
     | with_reducible first | refine z0f ?_ | refine z0g ?_ | refine z0d ?_ | refine z0e ?_ | refine z0b ?_ | refine z0i ?_ | refine qs ?_ | refine qb ?_ | refine z0j ?_ | refine qw ?_ | refine z0n ?_ | refine z0l ?_ | refine qi ?_ | refine qg (h := ?_) | refine qx (h := ?_) | refine qy (h := ?_) | refine qa ?_ | refine qc ?_ | refine ql ?_ | refine qp ?_ | refine z0a ?_ | rfl
     | (with_reducible first | refine ok_lt ?_ ?_ | refine ok_le ?_ ?_ | refine z0h ?_ ?_ | refine z0k ?_ ?_ | refine z0m ?_ ?_ | refine qu ?_ ?_ | refine ok_if ?_ ?_) <;> intro _ <;> try (exfalso; omega)
   exact ⟨b, hb, rfl⟩
 · unfold z1c z4i
   dsimp only
   have go := (E.ev _ (List.getElem_mem hk)).gone
   have hw := ByOk.with E hb (List.getElem_mem hk)
   obtain ⟨e1, e2⟩ := in_is (z19z l[k]) x.1 (by omega)
   repeat' first
     | (dsimp only [Int.toNat_natCast, List.length_nil])
     | ((with_reducible refine ok_eq e2 ?_))
     | ((with_reducible refine ok_eq (zk5 hb.v _) ?_))
     | ((with_reducible refine z0z ?_ ?_) <;> intro _ <;> try (exfalso; omega))
     | with_reducible first | refine z0f ?_ | refine z0g ?_ | refine z0d ?_ | refine z0e ?_ | refine z0b ?_ | refine z0i ?_ | refine qs ?_ | refine qb ?_ | refine z0j ?_ | refine qw ?_ | refine z0n ?_ | refine z0l ?_ | refine qi ?_ | refine qg (h := ?_) | refine qx (h := ?_) | refine qy (h := ?_) | refine qa ?_ | refine qc ?_ | refine ql ?_ | refine qp ?_ | refine z0a ?_ | rfl
     | (with_reducible first | refine ok_lt ?_ ?_ | refine ok_le ?_ ?_ | refine z0h ?_ ?_ | refine z0k ?_ ?_ | refine z0m ?_ ?_ | refine qu ?_ ?_ | refine ok_if ?_ ?_) <;> intro _ <;> try (exfalso; omega)
   all_goals first
     | exact ⟨withV b l[k].1, by rw [z0r (by omega)]; rfl, hw⟩
     | exact ⟨b, by rw [z0r (by omega)]; rfl, hb⟩
theorem z1pc {l : List T1} {K : List Int} (E : Evs l K) : Ok (zkf l) fun r => r.1.length ≤ l.length ∧ (∀ x, x ∈ r.1 → EntOk l K x) ∧ r.2 = l := by
 have hl := E.len
 unfold zkf
 refine zbf rfl ?_
 refine z0a (z1o l.length (fun i (a : List T2) => (a, (i : Int), l)) (fun i a => a.length ≤ i ∧ ∀ x, x ∈ a → EntOk l K x) [] rfl ⟨Nat.zero_le _, fun x hx => by cases hx⟩ (fun a ha => ?_) fun i a hi ha => ?_)
 · unfold z3d zdk
   dsimp only
   repeat' first
     | (dsimp only [Int.toNat_natCast, List.length_nil])
     | ((with_reducible refine z0z ?_ ?_) <;> intro _ <;> try (exfalso; omega))
     | with_reducible first | refine z0f ?_ | refine z0g ?_ | refine z0d ?_ | refine z0e ?_ | refine z0b ?_ | refine z0i ?_ | refine qs ?_ | refine qb ?_ | refine z0j ?_ | refine qw ?_ | refine z0n ?_ | refine z0l ?_ | refine qi ?_ | refine qg (h := ?_) | refine qx (h := ?_) | refine qy (h := ?_) | refine qa ?_ | refine qc ?_ | refine ql ?_ | refine qp ?_ | refine z0a ?_ | rfl
     | (with_reducible first | refine ok_lt ?_ ?_ | refine ok_le ?_ ?_ | refine z0h ?_ ?_ | refine z0k ?_ ?_ | refine z0m ?_ ?_ | refine qu ?_ ?_ | refine ok_if ?_ ?_) <;> intro _ <;> try (exfalso; omega)
   exact ⟨ha.1, ha.2, rfl⟩
 · unfold z3d zdk
   dsimp only
   have hm := List.getElem_mem hi
   have pok : ∀ x, EntOk l K x → Ok (zg1 a x) fun r => r.length ≤ i + 1 ∧ ∀ y, y ∈ r → EntOk l K y := fun x hx =>
     z8o (z1sm (fun y hy => hy.by'.v) (fun y z hy hz => ⟨hy.by'.join hz.by', hy.ev⟩) a x (by omega) ha.2 hx) fun r hr => ⟨by omega, hr.2⟩
   repeat' first
     | (dsimp only [Int.toNat_natCast, List.length_nil])
     | ((with_reducible refine z1f (z1uw E _ _ _ (ByOk.zero E)) ?_); rintro _ ⟨b, hb, rfl⟩)
     | ((with_reducible refine z1f (pok _ ⟨hb, _, hm, ?_⟩) ?_))
     | ((with_reducible refine z0z ?_ ?_) <;> intro _ <;> try (exfalso; omega))
     | with_reducible first | refine z0f ?_ | refine z0g ?_ | refine z0d ?_ | refine z0e ?_ | refine z0b ?_ | refine z0i ?_ | refine qs ?_ | refine qb ?_ | refine z0j ?_ | refine qw ?_ | refine z0n ?_ | refine z0l ?_ | refine qi ?_ | refine qg (h := ?_) | refine qx (h := ?_) | refine qy (h := ?_) | refine qa ?_ | refine qc ?_ | refine ql ?_ | refine qp ?_ | refine z0a ?_ | rfl
     | (with_reducible first | refine ok_lt ?_ ?_ | refine ok_le ?_ ?_ | refine z0h ?_ ?_ | refine z0k ?_ ?_ | refine z0m ?_ ?_ | refine qu ?_ ?_ | refine ok_if ?_ ?_) <;> intro _ <;> try (exfalso; omega)
   all_goals first
     | exact ⟨a, by rw [z0r (by omega)]; rfl, by omega, ha.2⟩
     | (rintro r ⟨g1, g2⟩
        repeat' first
          | (dsimp only [Int.toNat_natCast, List.length_nil])
          | ((with_reducible refine z0z ?_ ?_) <;> intro _ <;> try (exfalso; omega))
          | with_reducible first | refine z0f ?_ | refine z0g ?_ | refine z0d ?_ | refine z0e ?_ | refine z0b ?_ | refine z0i ?_ | refine qs ?_ | refine qb ?_ | refine z0j ?_ | refine qw ?_ | refine z0n ?_ | refine z0l ?_ | refine qi ?_ | refine qg (h := ?_) | refine qx (h := ?_) | refine qy (h := ?_) | refine qa ?_ | refine qc ?_ | refine ql ?_ | refine qp ?_ | refine z0a ?_ | rfl
          | (with_reducible first | refine ok_lt ?_ ?_ | refine ok_le ?_ ?_ | refine z0h ?_ ?_ | refine z0k ?_ ?_ | refine z0m ?_ ?_ | refine qu ?_ ?_ | refine ok_if ?_ ?_) <;> intro _ <;> try (exfalso; omega)
        exact ⟨r, by rw [z0r (by omega)]; rfl, g1, g2⟩)
     | (rename_i h1 h2
        exact ⟨.inl h1, rfl, rfl, rfl, by rw [if_neg h2]⟩)
     | (rename_i h1 h2
        exact ⟨.inr (.inl h1), rfl, rfl, rfl, by rw [if_neg h2]⟩)
     | (rename_i h1 h2
        exact ⟨.inr (.inr h1), rfl, rfl, rfl, by rw [if_pos h2]⟩)
end Go.Proofs.Ytfbdjicfkcklfaa