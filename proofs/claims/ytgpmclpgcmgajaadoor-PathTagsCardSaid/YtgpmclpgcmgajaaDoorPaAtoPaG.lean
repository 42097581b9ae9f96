import Derived.Test.YtgpmclpgcmgajaaDoorTm21to25
import Derived.Test.YtgpmclpgcmgajaaDoorTm26to28
import Derived.Test.YtgpmclpgcmgajaaDoorPaW5toPaB
import Derived.Test.YtgpmclpgcmgajaaDoorProg
set_option maxRecDepth 100000
set_option linter.unusedVariables false
noncomputable section
namespace Go.Proofs.YtgpmclpgcmgajaaDoor
open Go.Tm Go.Ab
abbrev T0 := Int × Int
def c0 : U := (.st (.cons (.int .i64) (.one (.int .u32))))
def z7z : Env := ⟨[], [], []⟩
theorem z7e : EnvsOK Tryd.prog z7z := ⟨z2w _, z2c _, z2d _⟩
def z3g : Shp := ⟨1, 0, [(0, .d .bool)], []⟩
def z3u : XS := .one .ret z3g.xe
theorem z6v : z3u.OK := XS.one_ok (z1e z3g)
def z2j (t0 : List Int) (t1 : List Int) : Option ((Bool)) :=
 z0q (List.length t0) (
 z0q (List.length t1) (
 bif leI (List.length t1 : Nat) (List.length t0 : Nat) then
 z0q (List.length t1) (
 bif subOk 0 (List.length t1 : Nat) (List.length t0) then
 some (eqS (subL t0 0 (List.length t1 : Nat)) t1)
 else none)
 else
 some false))
def z3s : Sig := ⟨32, [.d .str, .d .str], [], 0, z3u⟩
def z3m (x : (List Int) × (List Int)) : Option ((Bool)) := z2j x.1 x.2
theorem z7o : FnOK Tryd.prog z3s z3m :=
 fn_ok z7e (h := .no) Tryd.func32 (z2r [] (by kernel_rfl) trivial) (by kernel_rfl) z6v (fun x => by kernel_rfl)
def zfi : Env := ⟨[(entQ z3s z3m)], [], []⟩
theorem zdt : EnvsOK Tryd.prog zfi := ⟨z0n (z0z z7o) (z2w _), z2c _, z2d _⟩
def z8i : Shp := ⟨1, 0, [(0, .d .bool)], []⟩
def z9k : XS := .one .ret z8i.xe
theorem zd3 : z9k.OK := XS.one_ok (z1e z8i)
def z4v (t0 : List Int) (t1 : List Int) : Option ((Bool)) :=
 (z2j t0 t1).bind fun r =>
 some r
def z9j : Sig := ⟨22, [.d .str, .d .str], [], 0, z9k⟩
def z9c (x : (List Int) × (List Int)) : Option ((Bool)) := z4v x.1 x.2
theorem zed : FnOK Tryd.prog z9j z9c :=
 fn_ok zdt (h := .no) Tryd.func22 (z2r [] (by kernel_rfl) trivial) (by kernel_rfl) zd3 (fun x => by kernel_rfl)
def z3e : Ent := zii 80
theorem z6a : EntOK Tryd.prog z3e := zpq Tryd.func80 (by kernel_rfl) (by kernel_rfl) (by kernel_rfl) (by kernel_rfl)
def z7y : Env := ⟨[z3e], [], []⟩
theorem z7d : EnvsOK Tryd.prog z7y := ⟨z0n z6a (z2w _), z2c _, z2d _⟩
def z3i : Shp := ⟨1, 0, [(0, .d (.int .i64))], []⟩
def z3r : XS := .one .ret z3i.xe
theorem z7b : z3r.OK := XS.one_ok (z1e z3i)
def z1k (t0 : List Int) (c : Int) : Option ((Int)) :=
 z0q (List.length t0) (
 some (zdn t0 c))
def z3t : Sig := ⟨60, [.d .str, .d (.int .u8)], [], 0, z3r⟩
def z3o (x : (List Int) × Int) : Option ((Int)) := z1k x.1 x.2
theorem z7h : FnOK Tryd.prog z3t z3o :=
 fn_ok z7d (h := .no) Tryd.func60 (z2r [] (by kernel_rfl) trivial) (by kernel_rfl) z7b (fun x => by kernel_rfl)
def z9p : Env := ⟨[(entQ z3t z3o)], [], []⟩
theorem z8z : EnvsOK Tryd.prog z9p := ⟨z0n (z0z z7h) (z2w _), z2c _, z2d _⟩
def z2y : Shp := ⟨143, 0, [(0, .d .str), (1, .d .str), (5, .d (.int .i64)), (16, .d .bool)], []⟩
def z1q : XS := .one .normal z2y.xe
theorem z6b : z1q.OK := XS.one_ok (z1e z2y)
def z4e : Shp := ⟨1, 0, [(0, .d (.int .i64))], []⟩
def z4x : XS := .one .ret z4e.xe
theorem z8m : z4x.OK := XS.one_ok (z1e z4e)
def z2a (t0 : List Int) (substr : List Int) : Option ((Int)) :=
 z0q (List.length substr) (
 (show Option (((List Int) × (List Int) × Int × Bool)) from
 bif eqI (List.length substr : Nat) 0 then
 some (t0, substr, (List.length substr : Nat), true)
 else
 some (t0, substr, (List.length substr : Nat), eqS substr t0)).bind fun j =>
 bif j.2.2.2 then
 some 0
 else
 bif eqI j.2.2.1 1 then
 (idxI j.2.1 0).bind fun x =>
 (z1k j.1 x).bind fun r =>
 some r
 else
 z0q (List.length j.1) (
 bif leI (List.length j.1 : Nat) j.2.2.1 then
 some (-1)
 else
 none))
def z4z : Sig := ⟨46, [.d .str, .d .str], [], 0, z4x⟩
def z4s (x : (List Int) × (List Int)) : Option ((Int)) := z2a x.1 x.2
theorem z9i : FnOK Tryd.prog z4z z4s :=
 fn_ok z8z (h := (.two .no (.two .no (.two (.join (fun _ => z1q) .no .no) .no)))) Tryd.func46 (z2r [.xs (fun _ => z1q)] (by kernel_rfl) ⟨(zpt z6b), trivial⟩) (by kernel_rfl) z8m (fun x => by kernel_rfl)
def zau : Env := ⟨[(entQ z4z z4s)], [], []⟩
theorem z9s : EnvsOK Tryd.prog zau := ⟨z0n (z0z z9i) (z2w _), z2c _, z2d _⟩
def z4w : Shp := ⟨1, 0, [(0, .tu [.d .str, .d .str, .d .bool])], []⟩
def z5w : XS := .one .ret z4w.xe
theorem z9h : z5w.OK := XS.one_ok (z1e z4w)
def z2m (t0 : List Int) (sep : List Int) : Option (((List Int) × (List Int) × Bool)) :=
 (z2a t0 sep).bind fun r =>
 bif leI 0 r then
 bif subOk 0 r (List.length t0) then
 z0q (List.length sep) (
 bif subOk (W64 (r + (List.length sep : Nat))) (List.length t0 : Nat) (List.length t0) then
 some ((subL t0 0 r, subL t0 (W64 (r + (List.length sep : Nat))) (List.length t0 : Nat), true))
 else none)
 else none
 else
 some (t0, ([] : List Int), false)
def z5v : Sig := ⟨34, [.d .str, .d .str], [], 0, z5w⟩
def z5k (x : (List Int) × (List Int)) : Option (((List Int) × (List Int) × Bool)) := z2m x.1 x.2
theorem zao : FnOK Tryd.prog z5v z5k :=
 fn_ok z9s (h := .no) Tryd.func34 (z2r [] (by kernel_rfl) trivial) (by kernel_rfl) z9h (fun x => by kernel_rfl)
def zmk : Env := ⟨[(entQ z5v z5k)], [], []⟩
theorem zk8 : EnvsOK Tryd.prog zmk := ⟨z0n (z0z zao) (z2w _), z2c _, z2d _⟩
def zci : Shp := ⟨1, 0, [(0, .tu [.d .str, .d .str, .d .bool])], []⟩
def zf6 : XS := .one .ret zci.xe
theorem zi7 : zf6.OK := XS.one_ok (z1e zci)
def z7j (t0 : List Int) (sep : List Int) : Option (((List Int) × (List Int) × Bool)) :=
 (z2m t0 sep).bind fun r =>
 some (r.1, r.2.1, r.2.2)
def zf4 : Sig := ⟨24, [.d .str, .d .str], [], 0, zf6⟩
def zdy (x : (List Int) × (List Int)) : Option (((List Int) × (List Int) × Bool)) := z7j x.1 x.2
theorem zl6 : FnOK Tryd.prog zf4 zdy :=
 fn_ok zk8 (h := .no) Tryd.func24 (z2r [] (by kernel_rfl) trivial) (by kernel_rfl) zi7 (fun x => by kernel_rfl)
def zpc : Env := ⟨[(entQ zf4 zdy), (entQ zja zhh), (entQ zfu zfb)], [], []⟩
theorem zmd : EnvsOK Tryd.prog zpc := ⟨z0n (z0z zl6) (z0n (z0z zp4) (z0n (z0z zmr) (z2w _))), z2c _, z2d _⟩
def zf2 : Shp := ⟨1, 0, [(0, .d .bool)], []⟩
def zhu : XS := .one .ret zf2.xe
theorem zkv : zhu.OK := XS.one_ok (z1e zf2)
def zae (t0 : List Int) : Option ((Bool)) :=
 bif eqS t0 ([108, 111, 115, 116, 43, 102, 111, 117, 110, 100] : List Int) then
 some true
 else
 (z7j t0 ([126] : List Int)).bind fun r =>
 (zek r.1).bind fun r2 =>
 bif !r2 then
 some false
 else
 (z7j r.2.1 ([46] : List Int)).bind fun r3 =>
 bif !r.2.2 then
 some true
 else
 bif r3.2.2 then
 (z8v r3.1).bind fun r4 =>
 bif r4 then
 (z8v r3.2.1).bind fun r5 =>
 some r5
 else
 some false
 else
 some false
def zd4 : Sig := ⟨13, [.d .str], [], 0, zhu⟩
def zc5 (x : (List Int)) : Option ((Bool)) := zae x
theorem zfl : FnOK Tryd.prog zd4 zc5 :=
 fn_ok zmd (h := .no) Tryd.func13 (z2r [] (by kernel_rfl) trivial) (by kernel_rfl) zkv (fun x => by kernel_rfl)
def zny : Env := ⟨[(entQ z9j z9c), (entQ zhw zgj), (entQ zd4 zc5)], [], []⟩
theorem zdh : EnvsOK Tryd.prog zny := ⟨z0n (z0z zed) (z0n (z0z zok) (z0n (z0z zfl) (z2w _))), z2c _, z2d _⟩
def z4h : Shp := ⟨34, 0, [(4, .d (.sl .str))], []⟩
def z4g : Shp := ⟨34, 0, [(2, .d (.sl .str)), (3, .d (.int .i64))], []⟩
def z1a : XS := .or (.exit 0) z4h.xe (.one .ret z4g.xe)
theorem z8l : z1a.OK := XS.or_ok (z1e z4h) (XS.one_ok (z1e z4g))
def z0y : Shp := ⟨34, 0, [(4, .d (.sl .str)), (23, .d (.sl .str)), (24, .d (.int .i64)), (25, .d (.int .i64))], []⟩
abbrev z2x := (List (List Int)) × (List (List Int)) × Int × Int
abbrev z5f := ((List (List Int))) ⊕ ((List (List Int)) × Int)
def z2t (l : List (List Int)) (t23 : List (List Int)) (t24 : Int) (t25 : Int) : Option (z2x ⊕ z5f) :=
 bif ltI t25 t24 then
 (idxI t23 t25).bind fun x =>
 (zae x).bind fun r =>
 bif !r then
 some (.inr (.inr ([], 20)))
 else
 some (.inl (l, t23, t24, W64 (t25 + 1)))
 else
 some (.inr (.inl l))
def z0i (s : z2x) : Option (z2x ⊕ z5f) := z2t s.1 s.2.1 s.2.2.1 s.2.2.2
theorem z8q : SoundD Tryd.prog (.loop (subC (bodyC Tryd.f10) [1, 1, 1, 1, 1, 0, 1, 0, 0])) (loopD z0y.xe z1a (loopC z0i)) :=
 ze9 (S := z0y.xe) (X := z1a) zdh (h := .no) (z2r [] (by kernel_rfl) trivial) (z1e z0y) z8l z0i (fun s => by kernel_rfl)
def zdd : Shp := ⟨1, 0, [(0, .tu [.d (.sl .str), .d (.int .i64)])], []⟩
def zgk : XS := .one .ret zdd.xe
theorem zjz : zgk.OK := XS.one_ok (z1e zdd)
def z6z (t0 : List Int) : Option (((List (List Int)) × Int)) :=
 z0q (List.length t0) (
 bif ltI 120 (List.length t0 : Nat) then
 some ([], 20)
 else
 (z4v t0 ([47] : List Int)).bind fun r =>
 bif !r then
 some ([], 20)
 else
 bif eqS t0 ([47] : List Int) then
 some ([], 0)
 else
 bif subOk 1 (List.length t0 : Nat) (List.length t0) then
 (z8e (subL t0 1 (List.length t0 : Nat)) ([47] : List Int)).bind fun r2 =>
 z0q (List.length r2) (
 bif ltI 10 (List.length r2 : Nat) then
 some ([], 20)
 else
 z0q (List.length r2) (
 (loopC z0i (r2, r2, (List.length r2 : Nat), 0)).bind fun o =>
 Sum.elim (fun y =>
 some (y, 0)) (fun y2 =>
 some (y2.1, y2.2)) o))
 else none)
def zc9 : Sig := ⟨10, [.d .str], [], 0, zgk⟩
def zas (x : (List Int)) : Option (((List (List Int)) × Int)) := z6z x
theorem zff : FnOK Tryd.prog zc9 zas :=
 fn_ok zdh (h := (.two .no (.two .no (.two .no (.two .no (.two .no (.two (.two .no (.over (loopD z0y.xe z1a (loopC z0i)))) .no))))))) Tryd.func10 (z2r [.den (.loop (subC (bodyC Tryd.f10) [1, 1, 1, 1, 1, 0, 1, 0, 0])) (loopD z0y.xe z1a (loopC z0i))] (by kernel_rfl) ⟨z8q, trivial⟩) (by kernel_rfl) zjz (fun x => by kernel_rfl)
def zp5 : Env := ⟨[(entQ zjc zhk)], [], []⟩
theorem zmi : EnvsOK Tryd.prog zp5 := ⟨z0n (z0z zpg) (z2w _), z2c _, z2d _⟩
def zf8 : Shp := ⟨1, 0, [(0, .d .str)], []⟩
def zi4 : XS := .one .ret zf8.xe
theorem zkw : zi4.OK := XS.one_ok (z1e zf8)
def zaj (l : List (List Int)) : Option (((List Int))) :=
 (zim l ([47] : List Int)).bind fun r =>
 catG ([47] : List Int) r fun _ =>
 some (([47] : List Int) ++ r)
def zhf : Sig := ⟨15, [.d (.sl .str)], [], 0, zi4⟩
def zfp (x : (List (List Int))) : Option (((List Int))) := zaj x
theorem zo4 : FnOK Tryd.prog zhf zfp :=
 fn_ok zmi (h := .no) Tryd.func15 (z2r [] (by kernel_rfl) trivial) (by kernel_rfl) zkw (fun x => by kernel_rfl)
def zmf : Env := ⟨[(entQ zc9 zas)], [], []⟩
theorem zcl : EnvsOK Tryd.prog zmf := ⟨z0n (z0z zff) (z2w _), z2c _, z2d _⟩
def z4t : Shp := ⟨48, 0, [], []⟩
def z4u : Shp := ⟨48, 0, [(4, .d .bool)], []⟩
def z1d : XS := .or (.exit 0) z4t.xe (.one .ret z4u.xe)
theorem z9b : z1d.OK := XS.or_ok (z1e z4t) (XS.one_ok (z1e z4u))
def z1c : Shp := ⟨48, 0, [(5, .d (.sl .str)), (34, .d (.sl .str)), (35, .d (.int .i64)), (36, .d (.int .i64))], []⟩
abbrev z3c := (List (List Int)) × (List (List Int)) × Int × Int
abbrev z5i := (Unit) ⊕ (Bool)
def z3d (a : List (List Int)) (t34 : List (List Int)) (t35 : Int) (t36 : Int) : Option (z3c ⊕ z5i) :=
 bif ltI t36 t35 then
 (idxI t34 t36).bind fun x =>
 (idxI a t36).bind fun x2 =>
 bif !(eqS x2 x) then
 some (.inr (.inr false))
 else
 some (.inl (a, t34, t35, W64 (t36 + 1)))
 else
 some (.inr (.inl ()))
def z0j (s : z3c) : Option (z3c ⊕ z5i) := z3d s.1 s.2.1 s.2.2.1 s.2.2.2
theorem z9g : SoundD Tryd.prog (.loop (subC (bodyC Tryd.f17) [1, 1, 1, 1, 0, 1, 0, 0])) (loopD z1c.xe z1d (loopC z0j)) :=
 ze9 (S := z1c.xe) (X := z1d) zcl (h := .no) (z2r [] (by kernel_rfl) trivial) (z1e z1c) z9b z0j (fun s => by kernel_rfl)
def zck : Shp := ⟨1, 0, [(0, .d .bool)], []⟩
def zfc : XS := .one .ret zck.xe
theorem zio : zfc.OK := XS.one_ok (z1e zck)
def zab (t0 : List Int) (top : List Int) : Option ((Bool)) :=
 (z6z t0).bind fun r =>
 (z6z top).bind fun r2 =>
 bif neI r.2 0 then
 some false
 else
 bif neI r2.2 0 then
 some false
 else
 z0q (List.length r.1) (
 z0q (List.length r2.1) (
 bif ltI (List.length r.1 : Nat) (List.length r2.1 : Nat) then
 some false
 else
 z0q (List.length r2.1) (
 (loopC z0j (r.1, r2.1, (List.length r2.1 : Nat), 0)).bind fun o =>
 Sum.elim (fun y =>
 some true) (fun y2 =>
 some y2) o)))
def zfd : Sig := ⟨17, [.d .str, .d .str], [], 0, zfc⟩
def zdq (x : (List Int) × (List Int)) : Option ((Bool)) := zab x.1 x.2
theorem zl3 : FnOK Tryd.prog zfd zdq :=
 fn_ok zcl (h := (.two .no (.two .no (.two .no (.two .no (.two (.two .no (.over (loopD z1c.xe z1d (loopC z0j)))) .no)))))) Tryd.func17 (z2r [.den (.loop (subC (bodyC Tryd.f17) [1, 1, 1, 1, 0, 1, 0, 0])) (loopD z1c.xe z1d (loopC z0j))] (by kernel_rfl) ⟨z9g, trivial⟩) (by kernel_rfl) zio (fun x => by kernel_rfl)
def zmm : Env := ⟨[(entQ zc9 zas), (entQ zhf zfp), (entQ zfd zdq)], [], []⟩
theorem zj2 : EnvsOK Tryd.prog zmm := ⟨z0n (z0z zff) (z0n (z0z zo4) (z0n (z0z zl3) (z2w _))), z2c _, z2d _⟩
def zcr : Shp := ⟨1, 0, [(0, .d .bool)], []⟩
def zf7 : XS := .one .ret zcr.xe
theorem zig : zf7.OK := XS.one_ok (z1e zcr)
def z2i  : Option ((Bool)) :=
 (z6z ([47, 97, 47, 98, 126, 49, 46, 50, 48] : List Int)).bind fun r =>
 bif eqI r.2 0 then
 z0q (List.length r.1) (
 bif eqI (List.length r.1 : Nat) 2 then
 (idxI r.1 1).bind fun x =>
 bif eqS x ([98, 126, 49, 46, 50, 48] : List Int) then
 (zaj r.1).bind fun r2 =>
 bif bif eqS r2 ([47, 97, 47, 98, 126, 49, 46, 50, 48] : List Int) then true else false then
 (zab ([47, 97, 47, 98] : List Int) ([47, 97] : List Int)).bind fun r3 =>
 some r3
 else
 some false
 else
 some false
 else
 some false)
 else
 some false
def zf3 : Sig := ⟨8, [], [], 0, zf7⟩
def zdi (x : Unit) : Option ((Bool)) := z2i 
theorem zl9 : FnOK Tryd.prog zf3 zdi :=
 fn_ok zj2 (h := .no) Tryd.func8 (z2r [] (by kernel_rfl) trivial) (by kernel_rfl) zig (fun x => by kernel_rfl)
def znc : Env := ⟨[], [], []⟩
theorem zdk : EnvsOK Tryd.prog znc := ⟨z2w _, z2c _, z2d _⟩
def z3n : Shp := ⟨72, 0, [(0, .d .str), (3, .d (.int .i64)), (4, .d (.int .u8)), (5, .d .bool), (6, .d .bool), (7, .d .bool)], []⟩
def z2g : XS := .one .normal z3n.xe
theorem z7c : z2g.OK := XS.one_ok (z1e z3n)
def z6h : Shp := ⟨72, 0, [], []⟩
def z6p : Shp := ⟨72, 0, [(2, .d .bool)], []⟩
def z1y : XS := .or (.exit 0) z6h.xe (.one .ret z6p.xe)
theorem zb1 : z1y.OK := XS.or_ok (z1e z6h) (XS.one_ok (z1e z6p))
def z1x : Shp := ⟨72, 0, [(0, .d .str), (3, .d (.int .i64))], []⟩
abbrev z4p := (List Int) × Int
abbrev z7m := (Unit) ⊕ (Bool)
def z4r (t0 : List Int) (i : Int) : Option (z4p ⊕ z7m) :=
 z0q (List.length t0) (
 bif ltI i (List.length t0 : Nat) then
 (idxI t0 i).bind fun x =>
 (show Option (((List Int) × Int × Int × Bool × Bool × Bool)) from
 bif leI 97 x then
 bif leI 65 x then
 bif leI 48 x then
 some (t0, i, x, leI x 122, leI x 90, leI x 57)
 else
 some (t0, i, x, leI x 122, leI x 90, false)
 else
 bif leI 48 x then
 some (t0, i, x, leI x 122, false, leI x 57)
 else
 some (t0, i, x, leI x 122, false, false)
 else
 bif leI 65 x then
 bif leI 48 x then
 some (t0, i, x, false, leI x 90, leI x 57)
 else
 some (t0, i, x, false, leI x 90, false)
 else
 bif leI 48 x then
 some (t0, i, x, false, false, leI x 57)
 else
 some (t0, i, x, false, false, false)).bind fun j =>
 bif !j.2.2.2.1 then
 bif !j.2.2.2.2.1 then
 bif !j.2.2.2.2.2 then
 bif neI j.2.2.1 46 then
 bif neI j.2.2.1 95 then
 bif neI j.2.2.1 45 then
 some (.inr (.inr false))
 else
 some (.inl (j.1, W64 (j.2.1 + 1)))
 else
 some (.inl (j.1, W64 (j.2.1 + 1)))
 else
 some (.inl (j.1, W64 (j.2.1 + 1)))
 else
 some (.inl (j.1, W64 (j.2.1 + 1)))
 else
 some (.inl (j.1, W64 (j.2.1 + 1)))
 else
 some (.inl (j.1, W64 (j.2.1 + 1)))
 else
 some (.inr (.inl ())))
def z0v (s : z4p) : Option (z4p ⊕ z7m) := z4r s.1 s.2
theorem zcf : SoundD Tryd.prog (.loop (subC (bodyC Tryd.f21) [1, 1, 0, 1, 0, 0])) (loopD z1x.xe z1y (loopC z0v)) :=
 ze9 (S := z1x.xe) (X := z1y) zdk (h := (.two .no (.two (.two .no (.join (fun _ => z2g) .no .no)) .no))) (z2r [.xs (fun _ => z2g)] (by kernel_rfl) ⟨(zpt z7c), trivial⟩) (z1e z1x) zb1 z0v (fun s => by kernel_rfl)
def zdu : Shp := ⟨1, 0, [(0, .d .bool)], []⟩
def zfv : XS := .one .ret zdu.xe
theorem zkg : zfv.OK := XS.one_ok (z1e zdu)
def z8t (t0 : List Int) : Option ((Bool)) :=
 bif eqS t0 ([] : List Int) then
 some false
 else
 z0q (List.length t0) (
 bif ltI 12 (List.length t0 : Nat) then
 some false
 else
 bif eqS t0 ([46] : List Int) then
 some false
 else
 bif eqS t0 ([46, 46] : List Int) then
 some false
 else
 (loopC z0v (t0, 0)).bind fun o =>
 Sum.elim (fun y =>
 some true) (fun y2 =>
 some y2) o)
def zg2 : Sig := ⟨21, [.d .str], [], 0, zfv⟩
def zf1 (x : (List Int)) : Option ((Bool)) := z8t x
theorem zmq : FnOK Tryd.prog zg2 zf1 :=
 fn_ok zdk (h := (.two .no (.two .no (.two (.two .no (.over (loopD z1x.xe z1y (loopC z0v)))) .no)))) Tryd.func21 (z2r [.den (.loop (subC (bodyC Tryd.f21) [1, 1, 0, 1, 0, 0])) (loopD z1x.xe z1y (loopC z0v))] (by kernel_rfl) ⟨zcf, trivial⟩) (by kernel_rfl) zkg (fun x => by kernel_rfl)
end Go.Proofs.YtgpmclpgcmgajaaDoor
set_option maxRecDepth 100000
set_option linter.unusedVariables false
set_option linter.unusedSimpArgs false
namespace Go.Proofs.YtgpmclpgcmgajaaDoor
open Go.Tm Go.Ab Go.Lib
def okI (x : Int) : Bool := z5c x || decide (48 ≤ x ∧ x ≤ 57) || (decide (x = 46) || decide (x = 95) || decide (x = 45))
def nameI (s : List Int) : Bool := decide (1 ≤ s.length ∧ s.length ≤ 12) && !decide (s = [46]) && !decide (s = [46, 46]) && s.all okI
theorem b8_eq {x : Int} (hx : 0 ≤ x ∧ x < 256) (c : UInt8) : (b8 x == c) = decide (x = c.toNat) := by
 rw [Bool.eq_iff_iff, beq_iff_eq, decide_eq_true_eq]
 constructor
 · intro e; rw [← e, z8r hx]
 · intro e
   apply UInt8.toNat_inj.1
   have := z8r hx
   omega
theorem ztl {x : Int} (hx : 0 ≤ x ∧ x < 256) : okc (b8 x) = okI x := by
 unfold okc okI
 have h := z8r hx
 rw [h, b8_eq hx, b8_eq hx, b8_eq hx]
 have : decide (48 ≤ (b8 x).toNat ∧ (b8 x).toNat ≤ 57) = decide (48 ≤ x ∧ x ≤ 57) := by
   rw [Bool.eq_iff_iff, decide_eq_true_eq, decide_eq_true_eq]; omega
 rw [this]; rfl
theorem zs9 {s t : List Int} (hs : Bs s) (ht : Bs t) : s.map b8 = t.map b8 ↔ s = t := by
 constructor
 · intro h
   induction s generalizing t with
   | nil => cases t with
     | nil => rfl
     | cons y t => simp at h
   | cons x s ih => cases t with
     | nil => simp at h
     | cons y t =>
       simp only [List.map_cons, List.cons.injEq] at h
       rw [zfn (hs x (by simp)) (ht y (by simp)) h.1, ih (fun z hz => hs z (by simp [hz])) (fun z hz => ht z (by simp [hz])) h.2]
 · rintro rfl; rfl
theorem zwm {s : List Int} (hb : Bs s) : nameB (ba s) = nameI s := by
 unfold nameB nameI
 have e0 : (ba s).data.toList = s.map b8 := zbg s
 rw [e0, z3w]
 have h1 : (s.map b8 == [46]) = decide (s = [46]) := by
   rw [Bool.eq_iff_iff, beq_iff_eq, decide_eq_true_eq]
   exact zs9 (t := [46]) hb (fun x hx => by simp at hx; subst hx; decide)
 have h2 : (s.map b8 == [46, 46]) = decide (s = [46, 46]) := by
   rw [Bool.eq_iff_iff, beq_iff_eq, decide_eq_true_eq]
   exact zs9 (t := [46, 46]) hb (fun x hx => by simp at hx; subst hx; decide)
 have h3 : (s.map b8).all okc = s.all okI := by
   rw [List.all_map]
   rw [Bool.eq_iff_iff, List.all_eq_true, List.all_eq_true]
   constructor
   · intro h x hx; rw [← ztl (hb x hx)]; exact h x hx
   · intro h x hx; show okc (b8 x) = true; rw [ztl (hb x hx)]; exact h x hx
 rw [h1, h2, h3]
theorem zr9 {s : List Int} (hb : Bs s) (hl : s.length ≤ 1000) : zek s = some (nameI s) := by
 unfold zek zad
 rw [ble_t (by omega), zwm hb]; rfl
theorem zfq {s : List Int} (hb : Bs s) (hl : s.length ≤ 1000) : z8v s = some (canon s) := by
 unfold z8v zad
 rw [ble_t (by omega), zsn hb]; rfl
theorem zjm {s : List Int} (hb : Bs s) (hl : s.length ≤ 1000) : z8t s = some (nameI s) := by
 refine ok_is ?_
 unfold z8t nameI
 repeat' first
   | (dsimp only [Int.toNat_natCast, List.length_nil])
   | with_reducible first | refine z9m ?_ | refine za2 ?_ | refine z2u ?_ | refine z9r ?_ | refine z7x ?_ | refine zcd ?_ | refine qs ?_ | refine qb ?_ | refine zc8 ?_ | refine qw ?_ | refine zcg ?_ | refine zcb ?_ | refine qi ?_ | refine qg (h := ?_) | refine qx (h := ?_) | refine qy (h := ?_) | refine qa ?_ | refine qc ?_ | refine ql ?_ | refine qp ?_ | refine za6 ?_ | rfl
   | (with_reducible first | refine ok_lt ?_ ?_ | refine ok_le ?_ ?_ | refine zcc ?_ ?_ | refine zbx ?_ ?_ | refine zce ?_ ?_ | refine qu ?_ ?_ | refine ok_if ?_ ?_) <;> intro _ <;> try (exfalso; omega)
 · rename_i h; subst h; rfl
 · rename_i h1 h2; rw [decide_eq_false (p := 1 ≤ s.length ∧ _) (by omega)]; rfl
 · rename_i h1 h2 h3; subst h3; rfl
 · rename_i h1 h2 h3 h4; subst h4; rfl
 · rename_i h1 h2 h3 h4
   have hpos : 1 ≤ s.length := by
     cases s with
     | nil => exact absurd rfl h1
     | cons x l => simp
   have e : (decide (1 ≤ s.length ∧ s.length ≤ 12) && !decide (s = [46]) && !decide (s = [46, 46]) && s.all okI) = s.all okI := by
     rw [decide_eq_true (p := 1 ≤ s.length ∧ _) ⟨hpos, by omega⟩, decide_eq_false h3, decide_eq_false h4]; simp
   rw [e]
   refine zx8 s.length (fun i _ => (s, (i : Int))) (fun i (_ : Unit) => (s.take i).all okI = true) () rfl rfl (fun _ hall => ?_) fun i _ hi hall => ?_
   · unfold z0v z4r
     dsimp only
     repeat' first
       | (dsimp only [Int.toNat_natCast, List.length_nil])
       | with_reducible first | refine z9m ?_ | refine za2 ?_ | refine z2u ?_ | refine z9r ?_ | refine z7x ?_ | refine zcd ?_ | refine qs ?_ | refine qb ?_ | refine zc8 ?_ | refine qw ?_ | refine zcg ?_ | refine zcb ?_ | refine qi ?_ | refine qg (h := ?_) | refine qx (h := ?_) | refine qy (h := ?_) | refine qa ?_ | refine qc ?_ | refine ql ?_ | refine qp ?_ | refine za6 ?_ | rfl
       | (with_reducible first | refine ok_lt ?_ ?_ | refine ok_le ?_ ?_ | refine zcc ?_ ?_ | refine zbx ?_ ?_ | refine zce ?_ ?_ | refine qu ?_ ?_ | refine ok_if ?_ ?_) <;> intro _ <;> try (exfalso; omega)
     rw [List.take_length] at hall
     exact hall.symm
   · unfold z0v z4r
     dsimp only
     have hx := hb s[i] (List.getElem_mem hi)
     have hstep : okI s[i] = true → (s.take (i + 1)).all okI = true := fun h => by
       rw [List.take_succ_eq_append_getElem hi, List.all_append, hall, List.all_cons, h]; rfl
     have hno : okI s[i] = false → s.all okI = false := fun h => by
       rw [List.all_eq_false]; exact ⟨s[i], List.getElem_mem hi, by simp [h]⟩
     have hok : okI s[i] = (decide (97 ≤ s[i] ∧ s[i] ≤ 122) || decide (65 ≤ s[i] ∧ s[i] ≤ 90) || decide (48 ≤ s[i] ∧ s[i] ≤ 57) || (decide (s[i] = 46) || decide (s[i] = 95) || decide (s[i] = 45))) := rfl
     repeat' first
       | (dsimp only [Int.toNat_natCast, List.length_nil])
       | with_reducible first | refine z9m ?_ | refine za2 ?_ | refine z2u ?_ | refine z9r ?_ | refine z7x ?_ | refine zcd ?_ | refine qs ?_ | refine qb ?_ | refine zc8 ?_ | refine qw ?_ | refine zcg ?_ | refine zcb ?_ | refine qi ?_ | refine qg (h := ?_) | refine qx (h := ?_) | refine qy (h := ?_) | refine qa ?_ | refine qc ?_ | refine ql ?_ | refine qp ?_ | refine za6 ?_ | rfl
       | (with_reducible first | refine ok_lt ?_ ?_ | refine ok_le ?_ ?_ | refine zcc ?_ ?_ | refine zbx ?_ ?_ | refine zce ?_ ?_ | refine qu ?_ ?_ | refine ok_if ?_ ?_) <;> intro _ <;> try (exfalso; omega)
     all_goals first
       | (refine ⟨(), by rw [zjd (by omega)]; rfl, hstep ?_⟩; rw [hok]; simp only [Bool.or_eq_true, decide_eq_true_eq, Bool.not_eq_true', Bool.not_eq_false', decide_eq_false_iff_not] at *; omega)
       | (refine (hno ?_).symm; rw [hok]; simp only [Bool.or_eq_false_iff, Bool.or_eq_true, decide_eq_true_eq, Bool.not_eq_true', Bool.not_eq_false', decide_eq_false_iff_not] at *; omega)
end Go.Proofs.YtgpmclpgcmgajaaDoor
set_option maxRecDepth 100000
set_option linter.unusedVariables false
set_option linter.unusedSimpArgs false
namespace Go.Proofs.YtgpmclpgcmgajaaDoor
open Go.Tm Go.Ab Go.Lib
def cutI (c : Int) : List Int → List Int × List Int × Bool
 | [] => ([], [], false)
 | x :: l => if x = c then ([], l, true) else (x :: (cutI c l).1, (cutI c l).2.1, (cutI c l).2.2)
theorem zoe (c : Int) : ∀ (s : List Int), (∀ x, x ∈ s → x ≠ c) → cutI c s = (s, [], false)
 | [], _ => rfl
 | x :: l, h => by rw [cutI, if_neg (h x (by simp)), zoe c l fun y hy => h y (by simp [hy])]
theorem z8f (c : Int) : ∀ (a b : List Int), (∀ x, x ∈ a → x ≠ c) → cutI c (a ++ c :: b) = (a, b, true)
 | [], b, _ => by simp [cutI]
 | x :: a, b, h => by rw [List.cons_append, cutI, if_neg (h x (by simp)), z8f c a b fun y hy => h y (by simp [hy])]
theorem z6m (c : Int) : ∀ (s : List Int), ((∀ x, x ∈ s → x ≠ c) ∧ cutI c s = (s, [], false)) ∨ ∃ a b, (∀ x, x ∈ a → x ≠ c) ∧ s = a ++ c :: b ∧ cutI c s = (a, b, true)
 | [] => .inl ⟨(by intro x h; cases h), rfl⟩
 | y :: l => by
   by_cases h : y = c
   · subst h
     exact .inr ⟨[], l, (by intro x h; cases h), rfl, by simp [cutI]⟩
   · rcases z6m c l with ⟨h1, h2⟩ | ⟨a, b, h1, h2, h3⟩
     · have hm : ∀ x, x ∈ y :: l → x ≠ c := fun x hx => by
         rcases List.mem_cons.1 hx with rfl | hx
         · exact h
         · exact h1 x hx
       exact .inl ⟨hm, zoe c _ hm⟩
     · refine .inr ⟨y :: a, b, fun x hx => ?_, by rw [h2]; rfl, ?_⟩
       · rcases List.mem_cons.1 hx with rfl | hx
         · exact h
         · exact h1 x hx
       · rw [cutI, if_neg h, h3]
theorem zje {c : Int} (hc : 0 ≤ c ∧ c < 256) : ∀ (s : List Int), Bs s → (∀ x, x ∈ s → x ≠ c) → indexByte (s.map b8) (b8 c) = -1
 | [], _, _ => rfl
 | x :: l, hb, h => by
   have ih := zje hc l (fun y hy => hb y (by simp [hy])) fun y hy => h y (by simp [hy])
   have hne : (b8 x == b8 c) = false := by
     rw [beq_eq_false_iff_ne]
     exact fun e => h x (by simp) (zfn (hb x (by simp)) hc e)
   rw [List.map_cons, indexByte, hne, ih]; rfl
theorem zgc {c : Int} (hc : 0 ≤ c ∧ c < 256) : ∀ (a b : List Int), Bs a → (∀ x, x ∈ a → x ≠ c) → indexByte ((a ++ c :: b).map b8) (b8 c) = a.length
 | [], b, _, _ => by simp [indexByte]
 | x :: a, b, hb, h => by
   have ih := zgc hc a b (fun y hy => hb y (by simp [hy])) fun y hy => h y (by simp [hy])
   have hne : (b8 x == b8 c) = false := by
     rw [beq_eq_false_iff_ne]
     exact fun e => h x (by simp) (zfn (hb x (by simp)) hc e)
   rw [List.cons_append, List.map_cons, indexByte, hne, ih]
   have : (((a.length : Nat) : Int) == -1) = false := by rw [beq_eq_false_iff_ne]; omega
   rw [this]
   simp
theorem zt4 (s : List Int) (c : Int) : zdn s c = indexByte (s.map b8) (b8 c) := by
 unfold zdn
 rw [show (ba s).data.toList = s.map b8 from zbg s]
 rfl
theorem zuu {s : List Int} {c : Int} (hl : s.length ≤ 1000) : z2a s [c] = some (indexByte (s.map b8) (b8 c)) := by
 have hI : z1k s c = some (indexByte (s.map b8) (b8 c)) := by
   unfold z1k
   rw [z8a (by omega), zt4]
 unfold z2a
 have e1 : idxI [c] 0 = some c := rfl
 have e2 : eqI (([c] : List Int).length : Nat) 0 = false := rfl
 have e3 : eqI (([c] : List Int).length : Nat) 1 = true := rfl
 have e4 : eqS [c] s = true → s = [c] := fun h => (of_decide_eq_true h).symm
 rw [z8a (by simp), e2]
 simp only [cond_false, Option.bind_some, e1, e3, cond_true, hI]
 cases h : eqS [c] s with
 | false => rfl
 | true =>
   rw [e4 h]
   simp [indexByte]
theorem zt9 {s : List Int} {c : Int} (hb : Bs s) (hc : 0 ≤ c ∧ c < 256) (hl : s.length ≤ 1000) : z7j s [c] = some (cutI c s) := by
 have key : z2m s [c] = some (cutI c s) := by
   unfold z2m
   rw [zuu hl]
   simp only [Option.bind_some]
   rcases z6m c s with ⟨h1, h2⟩ | ⟨a, b, h1, h2, h3⟩
   · rw [zje hc s hb h1, h2]; rfl
   · have hba : Bs a := fun x hx => hb x (by rw [h2]; simp [hx])
     have hlen : s.length = a.length + (b.length + 1) := by rw [h2]; simp
     have hi : indexByte (s.map b8) (b8 c) = a.length := by
       have := zgc hc a b hba h1
       rw [← h2] at this
       exact this
     rw [hi, h3, leI_t (by omega), cond_true, zfj (by omega), cond_true, z8a (by simp), zjd (by simp; omega)]
     have e : ((a.length : Int) + ((([c] : List Int).length : Nat) : Int)) = ((a.length + 1 : Nat) : Int) := by simp
     rw [e, zfj (by omega), cond_true]
     have g1 : subL s 0 (a.length : Int) = a := by simp [subL, h2]
     have g2 : subL s ((a.length + 1 : Nat) : Int) (s.length : Int) = b := by
       simp only [subL, Int.toNat_natCast]
       rw [hlen, h2, List.drop_append, List.drop_eq_nil_of_le (by omega), List.nil_append, show a.length + 1 - a.length = 1 by omega]
       simp only [List.drop_succ_cons, List.drop_zero]
       exact List.take_of_length_le (by omega)
     rw [g1, g2]
 unfold z7j
 rw [key]; rfl
def lostI : List Int := [108, 111, 115, 116, 43, 102, 111, 117, 110, 100]
def partI (s : List Int) : Bool := decide (s = lostI) || (nameI (cutI 126 s).1 && (!(cutI 126 s).2.2 || ((cutI 46 (cutI 126 s).2.1).2.2 && canon (cutI 46 (cutI 126 s).2.1).1 && canon (cutI 46 (cutI 126 s).2.1).2.1)))
theorem zrk {c : Int} {s : List Int} (hb : Bs s) : Bs (cutI c s).1 ∧ Bs (cutI c s).2.1 ∧ (cutI c s).1.length ≤ s.length ∧ (cutI c s).2.1.length ≤ s.length := by
 rcases z6m c s with ⟨_, h2⟩ | ⟨a, b, _, h2, h3⟩
 · rw [h2]
   exact ⟨hb, (by intro x h; cases h), Nat.le_refl _, Nat.zero_le _⟩
 · rw [h3]
   exact ⟨fun x hx => hb x (by rw [h2]; simp [hx]), fun x hx => hb x (by rw [h2]; simp [hx]), by rw [h2]; simp, by rw [h2]; simp; omega⟩
theorem zq9 {s : List Int} (hb : Bs s) (hl : s.length ≤ 1000) : zae s = some (partI s) := by
 obtain ⟨b1, b2, b3, b4⟩ := zrk (c := 126) hb
 obtain ⟨d1, d2, d3, d4⟩ := zrk (c := 46) b2
 unfold zae partI
 rw [zt9 hb (by decide) hl]
 simp only [Option.bind_some]
 rw [zr9 b1 (by omega)]
 simp only [Option.bind_some]
 rw [zt9 b2 (by decide) (by omega)]
 simp only [Option.bind_some]
 rw [zfq d1 (by omega), zfq d2 (by omega)]
 simp only [Option.bind_some]
 by_cases h0 : s = lostI
 · have : eqS s ([108, 111, 115, 116, 43, 102, 111, 117, 110, 100] : List Int) = true := eqS_t h0
   rw [this, decide_eq_true h0]; rfl
 · have : eqS s ([108, 111, 115, 116, 43, 102, 111, 117, 110, 100] : List Int) = false := eqS_f h0
   rw [this, decide_eq_false h0]
   cases nameI (cutI 126 s).1 <;> cases (cutI 126 s).2.2 <;> cases (cutI 46 (cutI 126 s).2.1).2.2 <;> cases canon (cutI 46 (cutI 126 s).2.1).1 <;> cases canon (cutI 46 (cutI 126 s).2.1).2.1 <;> rfl
theorem zne {s : List Int} (h : canon s = true) : s.all isD = true ∧ s ≠ [] := by
 unfold canon at h
 simp only [Bool.and_eq_true, Bool.not_eq_true', List.isEmpty_eq_false_iff] at h
 exact ⟨h.1.1.2, h.1.1.1⟩
theorem zpy {s : List Int} (h : nameI s = true) : ∀ x, x ∈ s → x ≠ 126 := by
 unfold nameI at h
 simp only [Bool.and_eq_true] at h
 intro x hx e
 subst e
 have := List.all_eq_true.1 h.2 126 hx
 revert this
 decide
theorem zsj {d : List Int} (h : d.all isD = true) : ∀ x, x ∈ d → x ≠ 46 := fun x hx e => by
 have := List.all_eq_true.1 h x hx
 subst e
 revert this; decide
end Go.Proofs.YtgpmclpgcmgajaaDoor
set_option maxRecDepth 100000
set_option linter.unusedVariables false
set_option linter.unusedSimpArgs false
namespace Go.Proofs.YtgpmclpgcmgajaaDoor
open Go.Tm Go.Ab Go.Lib
def z2p (c : Int) : List Int → List (List Int)
 | [] => [[]]
 | x :: l => if x = c then [] :: z2p c l else match z2p c l with
   | [] => [[x]]
   | p :: ps => (x :: p) :: ps
theorem zd8 (c : Int) : ∀ (s : List Int), (∀ x, x ∈ s → x ≠ c) → z2p c s = [s]
 | [], _ => rfl
 | x :: l, h => by rw [z2p, if_neg (h x (by simp)), zd8 c l fun y hy => h y (by simp [hy])]
theorem zei (c : Int) : ∀ (a b : List Int), (∀ x, x ∈ a → x ≠ c) → z2p c (a ++ c :: b) = a :: z2p c b
 | [], b, _ => by simp [z2p]
 | x :: a, b, h => by rw [List.cons_append, z2p, if_neg (h x (by simp)), zei c a b fun y hy => h y (by simp [hy])]
theorem zma (c : Int) : ∀ (n : Nat) (s : List Int), s.length ≤ n → Bs s → ∀ p, p ∈ z2p c s → Bs p ∧ p.length ≤ s.length
 | n, s, hn, hb, p, hp => by
   rcases z6m c s with ⟨h1, _⟩ | ⟨a, b, h1, h2, _⟩
   · rw [zd8 c s h1] at hp
     simp at hp; subst hp
     exact ⟨hb, Nat.le_refl _⟩
   · rw [h2, zei c a b h1] at hp
     have hl : s.length = a.length + (b.length + 1) := by rw [h2]; simp
     rcases List.mem_cons.1 hp with rfl | hp
     · exact ⟨fun x hx => hb x (by rw [h2]; simp [hx]), by omega⟩
     · match n, hn with
       | 0, hn => omega
       | n + 1, hn =>
         have := zma c n b (by omega) (fun x hx => hb x (by rw [h2]; simp [hx])) p hp
         exact ⟨this.1, by omega⟩
theorem zhc {s : List Int} (hb : Bs s) : nums (s.map b8) = s := by
 unfold nums
 rw [List.map_map]
 conv => rhs; rw [← List.map_id s]
 exact List.map_congr_left fun x hx => z8r (hb x hx)
theorem zly {c : Int} (hc : 0 ≤ c ∧ c < 256) : ∀ (n : Nat) (s : List Int), s.length ≤ n → Bs s → (splitK [b8 c] 0 ((s.map b8).count (b8 c)) (s.map b8)).map nums = z2p c s
 | n, s, hn, hb => by
   rcases z6m c s with ⟨h1, _⟩ | ⟨a, b, h1, h2, _⟩
   · have hcnt : (s.map b8).count (b8 c) = 0 := by
       rw [List.count_eq_zero]
       intro hm
       obtain ⟨x, hx, e⟩ := List.mem_map.1 hm
       exact h1 x hx (zfn (hb x hx) hc e)
     rw [hcnt, zd8 c s h1]
     simp only [splitK, List.map_cons, List.map_nil]
     rw [zhc hb]
   · have hba : Bs a := fun x hx => hb x (by rw [h2]; simp [hx])
     have hbb : Bs b := fun x hx => hb x (by rw [h2]; simp [hx])
     have hl : s.length = a.length + (b.length + 1) := by rw [h2]; simp
     have hca : (a.map b8).count (b8 c) = 0 := by
       rw [List.count_eq_zero]
       intro hm
       obtain ⟨x, hx, e⟩ := List.mem_map.1 hm
       exact h1 x hx (zfn (hba x hx) hc e)
     have hcnt : (s.map b8).count (b8 c) = (b.map b8).count (b8 c) + 1 := by
       rw [h2, List.map_append, List.count_append, hca, List.map_cons, List.count_cons]
       simp
     have hi : index (s.map b8) [b8 c] = a.length := by
       rw [index_one, h2]
       exact zgc hc a b hba h1
     have hne : (index (s.map b8) [b8 c] == -1) = false := by rw [hi, beq_eq_false_iff_ne]; omega
     rw [hcnt]
     conv => rhs; rw [h2]
     rw [zei c a b h1, splitK, hne, hi]
     have e1 : (s.map b8).take (((a.length : Nat) : Int).toNat + 0) = a.map b8 := by
       rw [h2, List.map_append, Int.toNat_natCast, Nat.add_zero]
       exact List.take_left' (by simp)
     have e2 : (s.map b8).drop (((a.length : Nat) : Int).toNat + [b8 c].length) = b.map b8 := by
       rw [h2, List.map_append, List.map_cons, Int.toNat_natCast, List.length_singleton, List.drop_append, List.drop_eq_nil_of_le (by simp), List.nil_append]
       simp
     simp only [Bool.false_eq_true, if_false]
     rw [e1, e2, List.map_cons, zhc hba]
     match n, hn with
     | 0, hn => omega
     | n + 1, hn => rw [zly hc n b (by omega) hbb]
theorem zsg {c : Int} (hc : 0 ≤ c ∧ c < 256) {s : List Int} (hb : Bs s) : zan c s = z2p c s := by
 rw [← zly hc s.length s (Nat.le_refl _) hb]
 unfold zan
 have e0 : (ba s).data.toList = s.map b8 := zbg s
 have e1 : countB (ba s) ⟨#[c.toNat.toUInt8]⟩ = (s.map b8).count (b8 c) := by
   have : countB (ba s) ⟨#[c.toNat.toUInt8]⟩ = count (ba s).data.toList [b8 c] := rfl
   rw [this, count_one, e0]
 rw [e1, show (fun b : ByteArray => nums b.data.toList) = nums ∘ (fun b : ByteArray => b.data.toList) from rfl, ← List.map_map]
 congr 1
 have := splitB_data ⟨#[c.toNat.toUInt8]⟩ 0 ((s.map b8).count (b8 c)) (ba s)
 rw [e0] at this
 exact this
theorem zjj (c : Int) : ∀ (s : List Int), (z2p c s).length ≤ s.length + 1
 | [] => Nat.le_refl _
 | x :: l => by
   have := zjj c l
   rw [z2p]
   split
   · simp; omega
   · split <;> simp_all
     omega
def z6i (s : List Int) : List (List Int) × Int :=
 if 120 < s.length ∨ s.head? ≠ some 47 then ([], 20)
 else if s = [47] then ([], 0)
 else if 10 < (z2p 47 s.tail).length ∨ (z2p 47 s.tail).all partI = false then ([], 20)
 else (z2p 47 s.tail, 0)
theorem ztn {s : List Int} (hl : s.length ≤ 1000) : z4v s [47] = some (decide (s.head? = some 47)) := by
 unfold z4v z2j
 cases s with
 | nil => rfl
 | cons x l =>
   have hlen : (x :: l).length = l.length + 1 := rfl
   rw [z8a (by omega), z8a (by simp), leI_t (by simp; omega), cond_true, z8a (by simp), zfj (by simp; omega)]
   have : subL (x :: l) 0 ((([47] : List Int).length : Nat) : Int) = [x] := by simp [subL]
   rw [this]
   simp only [cond_true, Option.bind_some, Option.some.injEq]
   rw [Bool.eq_iff_iff, decide_eq_true_eq, decide_eq_true_eq]
   simp
theorem zj0 {s : List Int} (hb : Bs s) (hl : s.length ≤ 1000) : z6z s = some (z6i s) := by
 refine ok_is ?_
 unfold z6z z6i
 rw [ztn hl]
 repeat' first
   | (dsimp only [Int.toNat_natCast, List.length_nil])
   | with_reducible first | refine z9m ?_ | refine za2 ?_ | refine z2u ?_ | refine z9r ?_ | refine z7x ?_ | refine zcd ?_ | refine qs ?_ | refine qb ?_ | refine zc8 ?_ | refine qw ?_ | refine zcg ?_ | refine zcb ?_ | refine qi ?_ | refine qg (h := ?_) | refine qx (h := ?_) | refine qy (h := ?_) | refine qa ?_ | refine qc ?_ | refine ql ?_ | refine qp ?_ | refine za6 ?_ | rfl
   | (with_reducible first | refine ok_lt ?_ ?_ | refine ok_le ?_ ?_ | refine zcc ?_ ?_ | refine zbx ?_ ?_ | refine zce ?_ ?_ | refine qu ?_ ?_ | refine ok_if ?_ ?_) <;> intro _ <;> try (exfalso; omega)
 · rw [if_pos (.inl (by omega))]
 · rename_i h0 h1 h2
   have h1 := of_decide_eq_true h1
   rw [if_neg (by rintro (h | h); omega; exact h h1), if_pos h2]
 · rename_i h0 h1 h2 _
   have h1 := of_decide_eq_true h1
   rw [if_neg (by rintro (h | h); omega; exact h h1), if_neg h2]
   have htl : subL s 1 (s.length : Int) = s.tail := by
     simp [subL, List.take_of_length_le]
   have hbt : Bs s.tail := fun x hx => hb x (List.mem_of_mem_tail hx)
   have hS : z8e (subL s 1 (s.length : Int)) [47] = some (z2p 47 s.tail) := by
     rw [htl]
     unfold z8e
     dsimp only
     rw [ble_t (by rw [List.length_tail]; omega), zsg (by decide) hbt]; rfl
   rw [hS]
   have hpl : ∀ p, p ∈ z2p 47 s.tail → Bs p ∧ p.length ≤ s.tail.length := zma 47 _ _ (Nat.le_refl _) hbt
   have hlen := zjj 47 s.tail
   have hlt : s.tail.length ≤ 1000 := by rw [List.length_tail]; omega
   generalize z2p 47 s.tail = l at *
   repeat' first
     | (dsimp only [Int.toNat_natCast, List.length_nil])
     | with_reducible first | refine z9m ?_ | refine za2 ?_ | refine z2u ?_ | refine z9r ?_ | refine z7x ?_ | refine zcd ?_ | refine qs ?_ | refine qb ?_ | refine zc8 ?_ | refine qw ?_ | refine zcg ?_ | refine zcb ?_ | refine qi ?_ | refine qg (h := ?_) | refine qx (h := ?_) | refine qy (h := ?_) | refine qa ?_ | refine qc ?_ | refine ql ?_ | refine qp ?_ | refine za6 ?_ | rfl
     | (with_reducible first | refine ok_lt ?_ ?_ | refine ok_le ?_ ?_ | refine zcc ?_ ?_ | refine zbx ?_ ?_ | refine zce ?_ ?_ | refine qu ?_ ?_ | refine ok_if ?_ ?_) <;> intro _ <;> try (exfalso; omega)
   · rw [if_pos (.inl (by omega))]
   · rename_i h4
     have hloop : loopC z0i (l, l, (l.length : Int), 0) = some (if (l.any fun x => !partI x) = true then .inr ([], 20) else .inl l) := by
       refine zsr _ l (fun i => (l, l, (l.length : Int), (i : Int))) (fun x => !partI x) _ _ ?_ fun i hi => ?_
       · unfold z0i z2t
         dsimp only
         rw [ltI_f (by omega)]; rfl
       · unfold z0i z2t
         dsimp only
         obtain ⟨b1, b2⟩ := hpl l[i] (List.getElem_mem hi)
         rw [ltI_t (by omega), cond_true, zjg hi]
         simp only [Option.bind_some]
         rw [zq9 b1 (by omega)]
         simp only [Option.bind_some]
         rw [zq4 (by omega)]
         cases partI l[i] <;> rfl
     rw [hloop]
     have hany : (l.any fun x => !partI x) = !(l.all partI) := by rw [List.not_all_eq_any_not]
     rw [hany]
     cases hall : l.all partI with
     | true =>
       refine z2u (z2u ?_)
       rw [if_neg (by simp; omega)]
     | false =>
       refine z2u (z2u ?_)
       rw [if_pos (Or.inr rfl)]
 · rename_i h0 h1 h2 h3
   exfalso
   have h1 := of_decide_eq_true h1
   have hpos : 1 ≤ s.length := by
     cases s with
     | nil => simp at h1
     | cons x l => simp
   rw [zfj (by omega)] at h3
   cases h3
 · rename_i h0 h1
   have h1 := of_decide_eq_false h1
   rw [if_pos (.inr h1)]
end Go.Proofs.YtgpmclpgcmgajaaDoor
set_option maxRecDepth 100000
set_option linter.unusedVariables false
set_option linter.unusedSimpArgs false
namespace Go.Proofs.YtgpmclpgcmgajaaDoor
open Go.Tm Go.Ab Go.Lib
def diff (a b : List (List Int)) (n : Nat) : Bool := (List.range n).any fun i => !decide (a[i]? = b[i]?)
theorem zju {a b : List (List Int)} {n : Nat} : diff a b n = false ↔ ∀ i, i < n → a[i]? = b[i]? := by
 unfold diff
 rw [List.any_eq_false]
 constructor
 · intro h i hi
   have := h i (List.mem_range.2 hi)
   simpa using this
 · intro h i hi
   simp [h i (List.mem_range.1 hi)]
theorem ze8 {a b : List (List Int)} : b.isPrefixOf a = true ↔ b.length ≤ a.length ∧ ∀ i, i < b.length → a[i]? = b[i]? := by
 rw [List.isPrefixOf_iff_prefix]
 constructor
 · rintro ⟨t, rfl⟩
   exact ⟨by simp, fun i hi => by rw [List.getElem?_append_left hi]⟩
 · rintro ⟨h1, h2⟩
   refine ⟨a.drop b.length, ?_⟩
   conv => rhs; rw [← List.take_append_drop b.length a]
   congr 1
   apply List.ext_getElem?
   intro i
   rw [List.getElem?_take]
   split
   · rename_i hi; exact (h2 i hi).symm
   · rename_i hi; exact List.getElem?_eq_none (by omega)
theorem zp2 {a b : List (List Int)} (hl : b.length ≤ a.length) : diff a b b.length = !b.isPrefixOf a := by
 cases hd : diff a b b.length with
 | false =>
   have := ze8.2 ⟨hl, zju.1 hd⟩
   rw [this]; rfl
 | true =>
   cases hp : b.isPrefixOf a with
   | false => rfl
   | true =>
     have := zju.2 (ze8.1 hp).2
     rw [this] at hd; cases hd
def zl4 (s top : List Int) : Bool := decide ((z6i s).2 = 0) && decide ((z6i top).2 = 0) && (z6i top).1.isPrefixOf (z6i s).1
theorem zm5 (s : List Int) : (z6i s).1.length ≤ 10 := by
 unfold z6i
 split
 · exact Nat.zero_le _
 · split
   · exact Nat.zero_le _
   · split
     · exact Nat.zero_le _
     · rename_i h; simp only [not_or] at h; exact Nat.le_of_not_lt h.1
theorem ztk {s top : List Int} (hs : Bs s) (ht : Bs top) (ls : s.length ≤ 1000) (lt : top.length ≤ 1000) : zab s top = some (zl4 s top) := by
 refine ok_is ?_
 unfold zab zl4
 rw [zj0 hs ls, zj0 ht lt]
 have l1 := zm5 s
 have l2 := zm5 top
 generalize z6i s = A at *
 generalize z6i top = B at *
 repeat' first
   | (dsimp only [Int.toNat_natCast, List.length_nil])
   | with_reducible first | refine z9m ?_ | refine za2 ?_ | refine z2u ?_ | refine z9r ?_ | refine z7x ?_ | refine zcd ?_ | refine qs ?_ | refine qb ?_ | refine zc8 ?_ | refine qw ?_ | refine zcg ?_ | refine zcb ?_ | refine qi ?_ | refine qg (h := ?_) | refine qx (h := ?_) | refine qy (h := ?_) | refine qa ?_ | refine qc ?_ | refine ql ?_ | refine qp ?_ | refine za6 ?_ | rfl
   | (with_reducible first | refine ok_lt ?_ ?_ | refine ok_le ?_ ?_ | refine zcc ?_ ?_ | refine zbx ?_ ?_ | refine zce ?_ ?_ | refine qu ?_ ?_ | refine ok_if ?_ ?_) <;> intro _ <;> try (exfalso; omega)
 · rename_i h1 h2 h3
   rw [h1, h2]
   have : B.1.isPrefixOf A.1 = false := by
     cases hp : B.1.isPrefixOf A.1 with
     | false => rfl
     | true => have := (ze8.1 hp).1; omega
   rw [this]; rfl
 · rename_i h1 h2 h3
   rw [h1, h2]
   have hle : B.1.length ≤ A.1.length := by omega
   have hloop : loopC z0j (A.1, B.1, (B.1.length : Int), 0) = some (if diff A.1 B.1 B.1.length = true then .inr false else .inl ()) := by
     refine znp _ B.1.length (fun i => (A.1, B.1, (B.1.length : Int), (i : Int))) (fun i => !decide (A.1[i]? = B.1[i]?)) _ _ ?_ fun i hi => ?_
     · unfold z0j z3d
       dsimp only
       rw [ltI_f (by omega)]; rfl
     · unfold z0j z3d
       dsimp only
       rw [ltI_t (by omega), cond_true, zjg hi, zjg (show i < A.1.length by omega), zq4 (by omega)]
       simp only [Option.bind_some]
       rw [getE hi, getE (show i < A.1.length by omega)]
       by_cases e : A.1[i] = B.1[i]
       · rw [eqS_t e, decide_eq_true (by rw [e])]; rfl
       · rw [eqS_f e, decide_eq_false (fun h => e (Option.some.inj h))]; rfl
   rw [hloop, zp2 hle]
   cases B.1.isPrefixOf A.1 <;> exact z2u (z2u rfl)
 · rename_i h1 h2; rw [h1, decide_eq_false h2]; rfl
 · rename_i h; rw [decide_eq_false h]; rfl
end Go.Proofs.YtgpmclpgcmgajaaDoor