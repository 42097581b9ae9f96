import Derived.Test.YtgpmclpgcmgajaaDoorTm21to25
import Derived.Test.YtgpmclpgcmgajaaDoorTm26to28
import Derived.Test.YtgpmclpgcmgajaaDoorPaW5toPaB
import Derived.Test.YtgpmclpgcmgajaaDoorProg
set_option maxRecDepth 100000
set_option linter.unusedVariables false
noncomputable section
namespace Go.Proofs.YtgpmclpgcmgajaaDoor
open Go.Tm Go.Ab
def c0 : U := (.st (.cons (.int .i64) (.one (.int .u32))))
def zac : Env := ⟨[], [], []⟩
theorem z9p : EnvsOK Tryd.prog zac := ⟨z2q _, z1w _, z1v _⟩
def z4o : Shp := ⟨1, 0, [(0, .d .bool)], []⟩
def z5d : XS := .one .ret z4o.xe
theorem z9f : z5d.OK := XS.one_ok (z0f z4o)
def z3s (t0 : List Int) (t1 : List Int) : Option ((Bool)) :=
 z0i (List.length t0) (
 z0i (List.length t1) (
 bif leI (List.length t1 : Nat) (List.length t0 : Nat) then
 z0i (List.length t1) (
 bif subOk 0 (List.length t1 : Nat) (List.length t0) then
 some (eqS (subL t0 0 (List.length t1 : Nat)) t1)
 else none)
 else
 some false))
def z5c : Sig := ⟨32, [.d .str, .d .str], [], 0, z5d⟩
def z4t (x : (List Int) × (List Int)) : Option ((Bool)) := z3s x.1 x.2
theorem z9x : FnOK Tryd.prog z5c z4t :=
 fn_ok z9p (h := .no) Tryd.func32 (z1n [] (by kernel_rfl) trivial) (by kernel_rfl) z9f (fun x => by kernel_rfl)
def zhq : Env := ⟨[(entQ z5c z4t)], [], []⟩
theorem zfp : EnvsOK Tryd.prog zhq := ⟨z0p (z1a z9x) (z2q _), z1w _, z1v _⟩
def zaj : Shp := ⟨1, 0, [(0, .d .bool)], []⟩
def zbl : XS := .one .ret zaj.xe
theorem zf1 : zbl.OK := XS.one_ok (z0f zaj)
def z6r (t0 : List Int) (t1 : List Int) : Option ((Bool)) :=
 (z3s t0 t1).bind fun r =>
 some r
def zbj : Sig := ⟨22, [.d .str, .d .str], [], 0, zbl⟩
def zb8 (x : (List Int) × (List Int)) : Option ((Bool)) := z6r x.1 x.2
theorem zgv : FnOK Tryd.prog zbj zb8 :=
 fn_ok zfp (h := .no) Tryd.func22 (z1n [] (by kernel_rfl) trivial) (by kernel_rfl) zf1 (fun x => by kernel_rfl)
def z4m : Ent := zky 80
theorem z8d : EntOK Tryd.prog z4m := zs7 Tryd.func80 (by kernel_rfl) (by kernel_rfl) (by kernel_rfl) (by kernel_rfl)
def zab : Env := ⟨[z4m], [], []⟩
theorem z9n : EnvsOK Tryd.prog zab := ⟨z0p z8d (z2q _), z1w _, z1v _⟩
def z4p : Shp := ⟨1, 0, [(0, .d (.int .i64))], []⟩
def z5a : XS := .one .ret z4p.xe
theorem z9k : z5a.OK := XS.one_ok (z0f z4p)
def z2a (t0 : List Int) (c : Int) : Option ((Int)) :=
 z0i (List.length t0) (
 some (zg1 t0 c))
def z5f : Sig := ⟨60, [.d .str, .d (.int .u8)], [], 0, z5a⟩
def z4v (x : (List Int) × Int) : Option ((Int)) := z2a x.1 x.2
theorem za0 : FnOK Tryd.prog z5f z4v :=
 fn_ok z9n (h := .no) Tryd.func60 (z1n [] (by kernel_rfl) trivial) (by kernel_rfl) z9k (fun x => by kernel_rfl)
def zbw : Env := ⟨[(entQ z5f z4v)], [], []⟩
theorem zbc : EnvsOK Tryd.prog zbw := ⟨z0p (z1a za0) (z2q _), z1w _, z1v _⟩
def z4g : Shp := ⟨143, 0, [(0, .d .str), (1, .d .str), (5, .d (.int .i64)), (16, .d .bool)], []⟩
def z2v : XS := .one .normal z4g.xe
theorem z8c : z2v.OK := XS.one_ok (z0f z4g)
def z5u : Shp := ⟨1, 0, [(0, .d (.int .i64))], []⟩
def z7e : XS := .one .ret z5u.xe
theorem zar : z7e.OK := XS.one_ok (z0f z5u)
def z3l (t0 : List Int) (substr : List Int) : Option ((Int)) :=
 z0i (List.length substr) (
 (show Option (((List Int) × (List Int) × Int × Bool)) from
 bif eqI (List.length substr : Nat) 0 then
 some (t0, substr, (List.length substr : Nat), true)
 else
 some (t0, substr, (List.length substr : Nat), eqS substr t0)).bind fun j =>
 bif j.2.2.2 then
 some 0
 else
 bif eqI j.2.2.1 1 then
 (idxI j.2.1 0).bind fun x =>
 (z2a j.1 x).bind fun r =>
 some r
 else
 z0i (List.length j.1) (
 bif leI (List.length j.1 : Nat) j.2.2.1 then
 some (-1)
 else
 none))
def z6y : Sig := ⟨46, [.d .str, .d .str], [], 0, z7e⟩
def z6n (x : (List Int) × (List Int)) : Option ((Int)) := z3l x.1 x.2
theorem zbg : FnOK Tryd.prog z6y z6n :=
 fn_ok zbc (h := (.two .no (.two .no (.two (.join (fun _ => z2v) .no .no) .no)))) Tryd.func46 (z1n [.xs (fun _ => z2v)] (by kernel_rfl) ⟨(zn5 z8c), trivial⟩) (by kernel_rfl) zar (fun x => by kernel_rfl)
def zco : Env := ⟨[(entQ z6y z6n)], [], []⟩
theorem zc0 : EnvsOK Tryd.prog zco := ⟨z0p (z1a zbg) (z2q _), z1w _, z1v _⟩
def z6x : Shp := ⟨1, 0, [(0, .tu [.d .str, .d .str, .d .bool])], []⟩
def z7x : XS := .one .ret z6x.xe
theorem zbf : z7x.OK := XS.one_ok (z0f z6x)
def z3u (t0 : List Int) (sep : List Int) : Option (((List Int) × (List Int) × Bool)) :=
 (z3l t0 sep).bind fun r =>
 bif leI 0 r then
 bif subOk 0 r (List.length t0) then
 z0i (List.length sep) (
 bif subOk (W64 (r + (List.length sep : Nat))) (List.length t0 : Nat) (List.length t0) then
 some ((subL t0 0 r, subL t0 (W64 (r + (List.length sep : Nat))) (List.length t0 : Nat), true))
 else none)
 else none
 else
 some (t0, ([] : List Int), false)
def z8a : Sig := ⟨34, [.d .str, .d .str], [], 0, z7x⟩
def z7f (x : (List Int) × (List Int)) : Option (((List Int) × (List Int) × Bool)) := z3u x.1 x.2
theorem zcf : FnOK Tryd.prog z8a z7f :=
 fn_ok zc0 (h := .no) Tryd.func34 (z1n [] (by kernel_rfl) trivial) (by kernel_rfl) zbf (fun x => by kernel_rfl)
def zp0 : Env := ⟨[(entQ z8a z7f)], [], []⟩
theorem zlz : EnvsOK Tryd.prog zp0 := ⟨z0p (z1a zcf) (z2q _), z1w _, z1v _⟩
def zen : Shp := ⟨1, 0, [(0, .tu [.d .str, .d .str, .d .bool])], []⟩
def zhp : XS := .one .ret zen.xe
theorem zkz : zhp.OK := XS.one_ok (z0f zen)
def z9t (t0 : List Int) (sep : List Int) : Option (((List Int) × (List Int) × Bool)) :=
 (z3u t0 sep).bind fun r =>
 some (r.1, r.2.1, r.2.2)
def zhc : Sig := ⟨24, [.d .str, .d .str], [], 0, zhp⟩
def zga (x : (List Int) × (List Int)) : Option (((List Int) × (List Int) × Bool)) := z9t x.1 x.2
theorem zn6 : FnOK Tryd.prog zhc zga :=
 fn_ok zlz (h := .no) Tryd.func24 (z1n [] (by kernel_rfl) trivial) (by kernel_rfl) zkz (fun x => by kernel_rfl)
def zrm : Env := ⟨[(entQ zhc zga), (entQ zm3 zkc), (entQ zj7 zho)], [], []⟩
theorem zp2 : EnvsOK Tryd.prog zrm := ⟨z0p (z1a zn6) (z0p (z1a zrs) (z0p (z1a zoy) (z2q _))), z1w _, z1v _⟩
def zhi : Shp := ⟨1, 0, [(0, .d .bool)], []⟩
def zkf : XS := .one .ret zhi.xe
theorem znk : zkf.OK := XS.one_ok (z0f zhi)
def zeh (t0 : List Int) : Option ((Bool)) :=
 bif eqS t0 ([108, 111, 115, 116, 43, 102, 111, 117, 110, 100] : List Int) then
 some true
 else
 (z9t t0 ([126] : List Int)).bind fun r =>
 (zh4 r.1).bind fun r2 =>
 bif !r2 then
 some false
 else
 (z9t r.2.1 ([46] : List Int)).bind fun r3 =>
 bif !r.2.2 then
 some true
 else
 bif r3.2.2 then
 (zb4 r3.1).bind fun r4 =>
 bif r4 then
 (zb4 r3.2.1).bind fun r5 =>
 some r5
 else
 some false
 else
 some false
def zkg : Sig := ⟨13, [.d .str], [], 0, zkf⟩
def zj5 (x : (List Int)) : Option ((Bool)) := zeh x
theorem zqs : FnOK Tryd.prog zkg zj5 :=
 fn_ok zp2 (h := .no) Tryd.func13 (z1n [] (by kernel_rfl) trivial) (by kernel_rfl) znk (fun x => by kernel_rfl)
def zpl : Env := ⟨[(entQ zbj zb8), (entQ zkd zi5), (entQ zkg zj5)], [], []⟩
theorem zfz : EnvsOK Tryd.prog zpl := ⟨z0p (z1a zgv) (z0p (z1a zqw) (z0p (z1a zqs) (z2q _))), z1w _, z1v _⟩
def z5x : Shp := ⟨34, 0, [(4, .d (.sl .str))], []⟩
def z6c : Shp := ⟨34, 0, [(2, .d (.sl .str)), (3, .d (.int .i64))], []⟩
def z1r : XS := .or (.exit 0) z5x.xe (.one .ret z6c.xe)
theorem zas : z1r.OK := XS.or_ok (z0f z5x) (XS.one_ok (z0f z6c))
def z1q : Shp := ⟨34, 0, [(4, .d (.sl .str)), (23, .d (.sl .str)), (24, .d (.int .i64)), (25, .d (.int .i64))], []⟩
abbrev z4d := (List (List Int)) × (List (List Int)) × Int × Int
abbrev z6z := ((List (List Int))) ⊕ ((List (List Int)) × Int)
def z4c (l : List (List Int)) (t23 : List (List Int)) (t24 : Int) (t25 : Int) : Option (z4d ⊕ z6z) :=
 bif ltI t25 t24 then
 (idxI t23 t25).bind fun x =>
 (zeh x).bind fun r =>
 bif !r then
 some (.inr (.inr ([], 20)))
 else
 some (.inl (l, t23, t24, W64 (t25 + 1)))
 else
 some (.inr (.inl l))
def z0k (s : z4d) : Option (z4d ⊕ z6z) := z4c s.1 s.2.1 s.2.2.1 s.2.2.2
theorem zaw : SoundD Tryd.prog (.loop (subC (bodyC Tryd.f10) [1, 1, 1, 1, 1, 0, 1, 0, 0])) (loopD z1q.xe z1r (loopC z0k)) :=
 z5s (S := z1q.xe) (X := z1r) zfz (h := .no) (z1n [] (by kernel_rfl) trivial) (z0f z1q) zas z0k (fun s => by kernel_rfl)
def zfm : Shp := ⟨1, 0, [(0, .tu [.d (.sl .str), .d (.int .i64)])], []⟩
def zhw : XS := .one .ret zfm.xe
theorem zlr : zhw.OK := XS.one_ok (z0f zfm)
def z7k (t0 : List Int) : Option (((List (List Int)) × Int)) :=
 z0i (List.length t0) (
 bif ltI 120 (List.length t0 : Nat) then
 some ([], 20)
 else
 (z6r t0 ([47] : List Int)).bind fun r =>
 bif !r then
 some ([], 20)
 else
 bif eqS t0 ([47] : List Int) then
 some ([], 0)
 else
 bif subOk 1 (List.length t0 : Nat) (List.length t0) then
 (zam (subL t0 1 (List.length t0 : Nat)) ([47] : List Int)).bind fun r2 =>
 z0i (List.length r2) (
 bif ltI 10 (List.length r2 : Nat) then
 some ([], 20)
 else
 z0i (List.length r2) (
 (loopC z0k (r2, r2, (List.length r2 : Nat), 0)).bind fun o =>
 Sum.elim (fun y =>
 some (y, 0)) (fun y2 =>
 some (y2.1, y2.2)) o))
 else none)
def zb9 : Sig := ⟨10, [.d .str], [], 0, zhw⟩
def za4 (x : (List Int)) : Option (((List (List Int)) × Int)) := z7k x
theorem zct : FnOK Tryd.prog zb9 za4 :=
 fn_ok zfz (h := (.two .no (.two .no (.two .no (.two .no (.two .no (.two (.two .no (.over (loopD z1q.xe z1r (loopC z0k)))) .no))))))) Tryd.func10 (z1n [.den (.loop (subC (bodyC Tryd.f10) [1, 1, 1, 1, 1, 0, 1, 0, 0])) (loopD z1q.xe z1r (loopC z0k))] (by kernel_rfl) ⟨zaw, trivial⟩) (by kernel_rfl) zlr (fun x => by kernel_rfl)
def zs1 : Env := ⟨[(entQ zm0 zk2)], [], []⟩
theorem zox : EnvsOK Tryd.prog zs1 := ⟨z0p (z1a zs3) (z2q _), z1w _, z1v _⟩
def zhk : Shp := ⟨1, 0, [(0, .d .str)], []⟩
def zk7 : XS := .one .ret zhk.xe
theorem zni : zk7.OK := XS.one_ok (z0f zhk)
def zca (l : List (List Int)) : Option (((List Int))) :=
 (zkw l ([47] : List Int)).bind fun r =>
 catG ([47] : List Int) r fun _ =>
 some (([47] : List Int) ++ r)
def zjy : Sig := ⟨15, [.d (.sl .str)], [], 0, zk7⟩
def zj0 (x : (List (List Int))) : Option (((List Int))) := zca x
theorem zqk : FnOK Tryd.prog zjy zj0 :=
 fn_ok zox (h := .no) Tryd.func15 (z1n [] (by kernel_rfl) trivial) (by kernel_rfl) zni (fun x => by kernel_rfl)
def zpa : Env := ⟨[(entQ zb9 za4)], [], []⟩
theorem zez : EnvsOK Tryd.prog zpa := ⟨z0p (z1a zct) (z2q _), z1w _, z1v _⟩
def z6q : Shp := ⟨48, 0, [], []⟩
def z6o : Shp := ⟨48, 0, [(4, .d .bool)], []⟩
def z1t : XS := .or (.exit 0) z6q.xe (.one .ret z6o.xe)
theorem zay : z1t.OK := XS.or_ok (z0f z6q) (XS.one_ok (z0f z6o))
def z1u : Shp := ⟨48, 0, [(5, .d (.sl .str)), (34, .d (.sl .str)), (35, .d (.int .i64)), (36, .d (.int .i64))], []⟩
abbrev z4l := (List (List Int)) × (List (List Int)) × Int × Int
abbrev z7j := (Unit) ⊕ (Bool)
def z4i (a : List (List Int)) (t34 : List (List Int)) (t35 : Int) (t36 : Int) : Option (z4l ⊕ z7j) :=
 bif ltI t36 t35 then
 (idxI t34 t36).bind fun x =>
 (idxI a t36).bind fun x2 =>
 bif !(eqS x2 x) then
 some (.inr (.inr false))
 else
 some (.inl (a, t34, t35, W64 (t36 + 1)))
 else
 some (.inr (.inl ()))
def z0l (s : z4l) : Option (z4l ⊕ z7j) := z4i s.1 s.2.1 s.2.2.1 s.2.2.2
theorem zbh : SoundD Tryd.prog (.loop (subC (bodyC Tryd.f17) [1, 1, 1, 1, 0, 1, 0, 0])) (loopD z1u.xe z1t (loopC z0l)) :=
 z5s (S := z1u.xe) (X := z1t) zez (h := .no) (z1n [] (by kernel_rfl) trivial) (z0f z1u) zay z0l (fun s => by kernel_rfl)
def zeo : Shp := ⟨1, 0, [(0, .d .bool)], []⟩
def zhm : XS := .one .ret zeo.xe
theorem zko : zhm.OK := XS.one_ok (z0f zeo)
def z1c (t0 : List Int) (top : List Int) : Option ((Bool)) :=
 (z7k t0).bind fun r =>
 (z7k top).bind fun r2 =>
 bif neI r.2 0 then
 some false
 else
 bif neI r2.2 0 then
 some false
 else
 z0i (List.length r.1) (
 z0i (List.length r2.1) (
 bif ltI (List.length r.1 : Nat) (List.length r2.1 : Nat) then
 some false
 else
 z0i (List.length r2.1) (
 (loopC z0l (r.1, r2.1, (List.length r2.1 : Nat), 0)).bind fun o =>
 Sum.elim (fun y =>
 some true) (fun y2 =>
 some y2) o)))
def zcn : Sig := ⟨17, [.d .str, .d .str], [], 0, zhm⟩
def zc1 (x : (List Int) × (List Int)) : Option ((Bool)) := z1c x.1 x.2
theorem zg5 : FnOK Tryd.prog zcn zc1 :=
 fn_ok zez (h := (.two .no (.two .no (.two .no (.two .no (.two (.two .no (.over (loopD z1u.xe z1t (loopC z0l)))) .no)))))) Tryd.func17 (z1n [.den (.loop (subC (bodyC Tryd.f17) [1, 1, 1, 1, 0, 1, 0, 0])) (loopD z1u.xe z1t (loopC z0l))] (by kernel_rfl) ⟨zbh, trivial⟩) (by kernel_rfl) zko (fun x => by kernel_rfl)
def zov : Env := ⟨[(entQ zb9 za4), (entQ zjy zj0), (entQ zcn zc1)], [], []⟩
theorem zmf : EnvsOK Tryd.prog zov := ⟨z0p (z1a zct) (z0p (z1a zqk) (z0p (z1a zg5) (z2q _))), z1w _, z1v _⟩
def zer : Shp := ⟨1, 0, [(0, .d .bool)], []⟩
def zhj : XS := .one .ret zer.xe
theorem zlf : zhj.OK := XS.one_ok (z0f zer)
def z8b  : Option ((Bool)) :=
 (z7k ([47, 97, 47, 98, 126, 49, 46, 50, 48] : List Int)).bind fun r =>
 bif eqI r.2 0 then
 z0i (List.length r.1) (
 bif eqI (List.length r.1 : Nat) 2 then
 (idxI r.1 1).bind fun x =>
 bif eqS x ([98, 126, 49, 46, 50, 48] : List Int) then
 (zca r.1).bind fun r2 =>
 bif bif eqS r2 ([47, 97, 47, 98, 126, 49, 46, 50, 48] : List Int) then true else false then
 (z1c ([47, 97, 47, 98] : List Int) ([47, 97] : List Int)).bind fun r3 =>
 some r3
 else
 some false
 else
 some false
 else
 some false)
 else
 some false
def zhg : Sig := ⟨8, [], [], 0, zhj⟩
def zg4 (x : Unit) : Option ((Bool)) := z8b 
theorem zn8 : FnOK Tryd.prog zhg zg4 :=
 fn_ok zmf (h := .no) Tryd.func8 (z1n [] (by kernel_rfl) trivial) (by kernel_rfl) zlf (fun x => by kernel_rfl)
def zp4 : Env := ⟨[], [], []⟩
theorem zek : EnvsOK Tryd.prog zp4 := ⟨z2q _, z1w _, z1v _⟩
def z8f : Shp := ⟨18, 0, [], []⟩
def z8e : Shp := ⟨18, 0, [(2, .d .bool)], []⟩
def z2x : XS := .or (.exit 0) z8f.xe (.one .ret z8e.xe)
theorem zcp : z2x.OK := XS.or_ok (z0f z8f) (XS.one_ok (z0f z8e))
def z2w : Shp := ⟨18, 0, [(8, .d (.sl .str)), (9, .d (.int .i64)), (10, .d (.int .i64))], []⟩
abbrev z5k := (List (List Int)) × Int × Int
abbrev z9m := (Unit) ⊕ (Bool)
def z5j (t8 : List (List Int)) (t9 : Int) (t10 : Int) : Option (z5k ⊕ z9m) :=
 bif ltI t10 t9 then
 (idxI t8 t10).bind fun x =>
 z0i (List.length x) (
 bif ltI 200 (List.length x : Nat) then
 some (.inr (.inr false))
 else
 some (.inl (t8, t9, W64 (t10 + 1))))
 else
 some (.inr (.inl ()))
def z0s (s : z5k) : Option (z5k ⊕ z9m) := z5j s.1 s.2.1 s.2.2
theorem zd7 : SoundD Tryd.prog (.loop (subC (bodyC Tryd.f9) [1, 1, 0, 1, 0, 0])) (loopD z2w.xe z2x (loopC z0s)) :=
 z5s (S := z2w.xe) (X := z2x) zek (h := .no) (z1n [] (by kernel_rfl) trivial) (z0f z2w) zcp z0s (fun s => by kernel_rfl)
def zew : Shp := ⟨1, 0, [(0, .d .bool)], []⟩
def zha : XS := .one .ret zew.xe
theorem zkt : zha.OK := XS.one_ok (z0f zew)
def za2 (l : List (List Int)) : Option ((Bool)) :=
 z0i (List.length l) (
 bif ltI 40 (List.length l : Nat) then
 some false
 else
 z0i (List.length l) (
 (loopC z0s (l, (List.length l : Nat), 0)).bind fun o =>
 Sum.elim (fun y =>
 some true) (fun y2 =>
 some y2) o))
def zhf : Sig := ⟨9, [.d (.sl .str)], [], 0, zha⟩
def zg2 (x : (List (List Int))) : Option ((Bool)) := za2 x
theorem zno : FnOK Tryd.prog zhf zg2 :=
 fn_ok zek (h := (.two .no (.two .no (.two (.two .no (.over (loopD z2w.xe z2x (loopC z0s)))) .no)))) Tryd.func9 (z1n [.den (.loop (subC (bodyC Tryd.f9) [1, 1, 0, 1, 0, 0])) (loopD z2w.xe z2x (loopC z0s))] (by kernel_rfl) ⟨zd7, trivial⟩) (by kernel_rfl) zkt (fun x => by kernel_rfl)
def zqo : Env := ⟨[], [], []⟩
theorem zfk : EnvsOK Tryd.prog zqo := ⟨z2q _, z1w _, z1v _⟩
def z4u : Shp := ⟨72, 0, [(0, .d .str), (3, .d (.int .i64)), (4, .d (.int .u8)), (5, .d .bool), (6, .d .bool), (7, .d .bool)], []⟩
def z3o : XS := .one .normal z4u.xe
theorem z9o : z3o.OK := XS.one_ok (z0f z4u)
def z8w : Shp := ⟨72, 0, [], []⟩
def z8t : Shp := ⟨72, 0, [(2, .d .bool)], []⟩
def z3j : XS := .or (.exit 0) z8w.xe (.one .ret z8t.xe)
theorem zdd : z3j.OK := XS.or_ok (z0f z8w) (XS.one_ok (z0f z8t))
def z3g : Shp := ⟨72, 0, [(0, .d .str), (3, .d (.int .i64))], []⟩
abbrev z6f := (List Int) × Int
abbrev z9q := (Unit) ⊕ (Bool)
def z6j (t0 : List Int) (i : Int) : Option (z6f ⊕ z9q) :=
 z0i (List.length t0) (
 bif ltI i (List.length t0 : Nat) then
 (idxI t0 i).bind fun x =>
 (show Option (((List Int) × Int × Int × Bool × Bool × Bool)) from
 bif leI 97 x then
 bif leI 65 x then
 bif leI 48 x then
 some (t0, i, x, leI x 122, leI x 90, leI x 57)
 else
 some (t0, i, x, leI x 122, leI x 90, false)
 else
 bif leI 48 x then
 some (t0, i, x, leI x 122, false, leI x 57)
 else
 some (t0, i, x, leI x 122, false, false)
 else
 bif leI 65 x then
 bif leI 48 x then
 some (t0, i, x, false, leI x 90, leI x 57)
 else
 some (t0, i, x, false, leI x 90, false)
 else
 bif leI 48 x then
 some (t0, i, x, false, false, leI x 57)
 else
 some (t0, i, x, false, false, false)).bind fun j =>
 bif !j.2.2.2.1 then
 bif !j.2.2.2.2.1 then
 bif !j.2.2.2.2.2 then
 bif neI j.2.2.1 46 then
 bif neI j.2.2.1 95 then
 bif neI j.2.2.1 45 then
 some (.inr (.inr false))
 else
 some (.inl (j.1, W64 (j.2.1 + 1)))
 else
 some (.inl (j.1, W64 (j.2.1 + 1)))
 else
 some (.inl (j.1, W64 (j.2.1 + 1)))
 else
 some (.inl (j.1, W64 (j.2.1 + 1)))
 else
 some (.inl (j.1, W64 (j.2.1 + 1)))
 else
 some (.inl (j.1, W64 (j.2.1 + 1)))
 else
 some (.inr (.inl ())))
def z1f (s : z6f) : Option (z6f ⊕ z9q) := z6j s.1 s.2
theorem ze0 : SoundD Tryd.prog (.loop (subC (bodyC Tryd.f21) [1, 1, 0, 1, 0, 0])) (loopD z3g.xe z3j (loopC z1f)) :=
 z5s (S := z3g.xe) (X := z3j) zfk (h := (.two .no (.two (.two .no (.join (fun _ => z3o) .no .no)) .no))) (z1n [.xs (fun _ => z3o)] (by kernel_rfl) ⟨(zn5 z9o), trivial⟩) (z0f z3g) zdd z1f (fun s => by kernel_rfl)
def zg0 : Shp := ⟨1, 0, [(0, .d .bool)], []⟩
def zio : XS := .one .ret zg0.xe
theorem zmw : zio.OK := XS.one_ok (z0f zg0)
def zax (t0 : List Int) : Option ((Bool)) :=
 bif eqS t0 ([] : List Int) then
 some false
 else
 z0i (List.length t0) (
 bif ltI 12 (List.length t0 : Nat) then
 some false
 else
 bif eqS t0 ([46] : List Int) then
 some false
 else
 bif eqS t0 ([46, 46] : List Int) then
 some false
 else
 (loopC z1f (t0, 0)).bind fun o =>
 Sum.elim (fun y =>
 some true) (fun y2 =>
 some y2) o)
def zi6 : Sig := ⟨21, [.d .str], [], 0, zio⟩
def zhh (x : (List Int)) : Option ((Bool)) := zax x
theorem zow : FnOK Tryd.prog zi6 zhh :=
 fn_ok zfk (h := (.two .no (.two .no (.two (.two .no (.over (loopD z3g.xe z3j (loopC z1f)))) .no)))) Tryd.func21 (z1n [.den (.loop (subC (bodyC Tryd.f21) [1, 1, 0, 1, 0, 0])) (loopD z3g.xe z3j (loopC z1f))] (by kernel_rfl) ⟨ze0, trivial⟩) (by kernel_rfl) zmw (fun x => by kernel_rfl)
def zn4 : Env := ⟨[], [], []⟩
theorem zdv : EnvsOK Tryd.prog zn4 := ⟨z2q _, z1w _, z1v _⟩
def z8u : Shp := ⟨52, 0, [(1, .d (.int .i64)), (6, .d (.int .i64))], []⟩
def z8p : Shp := ⟨52, 0, [(4, .d (.int .i64))], []⟩
def z3h : XS := .or (.exit 0) z8u.xe (.one .ret z8p.xe)
theorem zcw : z3h.OK := XS.or_ok (z0f z8u) (XS.one_ok (z0f z8p))
def z3f : Shp := ⟨52, 0, [(0, .d .str), (1, .d (.int .i64)), (5, .d (.int .i64)), (6, .d (.int .i64))], []⟩
abbrev z6g := (List Int) × Int × Int × Int
abbrev z9z := (Int × Int) ⊕ (Int)
def z6k (t0 : List Int) (t1 : Int) (n : Int) (t6 : Int) : Option (z6g ⊕ z9z) :=
 z0i (List.length t0) (
 bif ltI t6 (List.length t0 : Nat) then
 (idxI t0 t6).bind fun x =>
 bif leI 48 x then
 (idxI t0 t6).bind fun x2 =>
 bif leI x2 57 then
 (idxI t0 t6).bind fun x3 =>
 bif ltI 4294967295 (W64 ((W64 (10 * n)) + (W64 (WU8 (x3 - 48))))) then
 some (.inr (.inr (-1)))
 else
 bif ltI (W64 (t1 + 1)) (W64 (t6 + 1)) then
 (idxI t0 t1).bind fun x4 =>
 bif eqI x4 48 then
 some (.inr (.inr (-1)))
 else
 some (.inl ((t0, t1, W64 ((W64 (10 * n)) + (W64 (WU8 (x3 - 48)))), W64 (t6 + 1))))
 else
 some (.inl ((t0, t1, W64 ((W64 (10 * n)) + (W64 (WU8 (x3 - 48)))), W64 (t6 + 1))))
 else
 some (.inr (.inl (t1, t6)))
 else
 some (.inr (.inl (t1, t6)))
 else
 some (.inr (.inl (t1, t6))))
def z1e (s : z6g) : Option (z6g ⊕ z9z) := z6k s.1 s.2.1 s.2.2.1 s.2.2.2
theorem ze2 : SoundD Tryd.prog (.loop (subC (bodyC Tryd.f27) [1, 1, 0, 0, 0])) (loopD z3f.xe z3h (loopC z1e)) :=
 z5s (S := z3f.xe) (X := z3h) zdv (h := .no) (z1n [] (by kernel_rfl) trivial) (z0f z3f) zcw z1e (fun s => by kernel_rfl)
def zdw : Shp := ⟨1, 0, [(0, .d (.int .i64))], []⟩
def zft : XS := .one .ret zdw.xe
theorem zjs : zft.OK := XS.one_ok (z0f zdw)
def z8j (t0 : List Int) (t1 : Int) : Option ((Int)) :=
 (loopC z1e (t0, t1, 0, t1)).bind fun o =>
 Sum.elim (fun y =>
 bif eqI y.2 y.1 then
 some (-1)
 else
 some y.2) (fun y2 =>
 some y2) o
def zfs : Sig := ⟨27, [.d .str, .d (.int .i64)], [], 0, zft⟩
def zex (x : (List Int) × Int) : Option ((Int)) := z8j x.1 x.2
theorem zms : FnOK Tryd.prog zfs zex :=
 fn_ok zdv (h := (.two .no (.two .no (.two (.over (loopD z3f.xe z3h (loopC z1e))) .no)))) Tryd.func27 (z1n [.den (.loop (subC (bodyC Tryd.f27) [1, 1, 0, 0, 0])) (loopD z3f.xe z3h (loopC z1e))] (by kernel_rfl) ⟨ze2, trivial⟩) (by kernel_rfl) zjs (fun x => by kernel_rfl)
def zqc : Env := ⟨[(entQ zi6 zhh), (entQ zfs zex)], [], []⟩
theorem zgc : EnvsOK Tryd.prog zqc := ⟨z0p (z1a zow) (z0p (z1a zms) (z2q _)), z1w _, z1v _⟩
def z8l : Shp := ⟨53, 0, [], []⟩
def z8i : Shp := ⟨53, 0, [(2, .d .bool)], []⟩
def z3e : XS := .or (.exit 0) z8l.xe (.one .ret z8i.xe)
theorem zdc : z3e.OK := XS.or_ok (z0f z8l) (XS.one_ok (z0f z8i))
def z3i : Shp := ⟨53, 0, [(0, .d .str), (3, .d (.int .i64))], []⟩
abbrev z6h := (List Int) × Int
abbrev z9y := (Unit) ⊕ (Bool)
def z6i (t0 : List Int) (i : Int) : Option (z6h ⊕ z9y) :=
 z0i (List.length t0) (
 bif ltI i (List.length t0 : Nat) then
 (idxI t0 i).bind fun x =>
 bif neI x 126 then
 some (.inl (t0, W64 (i + 1)))
 else
 (z8j t0 (W64 (i + 1))).bind fun r =>
 bif subOk 0 i (List.length t0) then
 (zax (subL t0 0 i)).bind fun r2 =>
 bif !r2 then
 some (.inr (.inr false))
 else
 bif ltI r 0 then
 some (.inr (.inr false))
 else
 z0i (List.length t0) (
 bif leI (List.length t0 : Nat) r then
 some (.inr (.inr false))
 else
 (idxI t0 r).bind fun x2 =>
 bif neI x2 46 then
 some (.inr (.inr false))
 else
 (z8j t0 (W64 (r + 1))).bind fun r3 =>
 z0i (List.length t0) (
 some (.inr (.inr (eqI r3 (List.length t0 : Nat))))))
 else none
 else
 some (.inr (.inl ())))
def z1d (s : z6h) : Option (z6h ⊕ z9y) := z6i s.1 s.2
theorem ze8 : SoundD Tryd.prog (.loop (subC (bodyC Tryd.f14) [1, 1, 0, 1, 0, 0])) (loopD z3i.xe z3e (loopC z1d)) :=
 z5s (S := z3i.xe) (X := z3e) zgc (h := .no) (z1n [] (by kernel_rfl) trivial) (z0f z3i) zdc z1d (fun s => by kernel_rfl)
def zg9 : Shp := ⟨1, 0, [(0, .d .bool)], []⟩
def zhx : XS := .one .ret zg9.xe
theorem zm8 : zhx.OK := XS.one_ok (z0f zg9)
def zd0 (t0 : List Int) : Option ((Bool)) :=
 bif eqS t0 ([108, 111, 115, 116, 43, 102, 111, 117, 110, 100] : List Int) then
 some true
 else
 (zax t0).bind fun r =>
 bif r then
 some true
 else
 (loopC z1d (t0, 0)).bind fun o =>
 Sum.elim (fun y =>
 some false) (fun y2 =>
 some y2) o
def zi4 : Sig := ⟨14, [.d .str], [], 0, zhx⟩
def zhb (x : (List Int)) : Option ((Bool)) := zd0 x
theorem zp9 : FnOK Tryd.prog zi4 zhb :=
 fn_ok zgc (h := (.two .no (.two .no (.two (.two .no (.over (loopD z3i.xe z3e (loopC z1d)))) .no)))) Tryd.func14 (z1n [.den (.loop (subC (bodyC Tryd.f14) [1, 1, 0, 1, 0, 0])) (loopD z3i.xe z3e (loopC z1d))] (by kernel_rfl) ⟨ze8, trivial⟩) (by kernel_rfl) zm8 (fun x => by kernel_rfl)
def zp5 : Env := ⟨[(entQ zi4 zhb)], [], []⟩
theorem zeu : EnvsOK Tryd.prog zp5 := ⟨z0p (z1a zp9) (z2q _), z1w _, z1v _⟩
def z3z : Shp := ⟨58, 0, [(0, .d .str), (4, .wn 0 .str), (5, .d (.int .i64)), (6, .d (.int .i64))], [.row 9 .str]⟩
def z4a : Shp := ⟨58, 0, [(0, .d .str), (4, .wn 0 .str), (5, .d (.int .i64)), (6, .d (.int .i64)), (32, .d .str), (33, .d (.int .i64)), (34, .d (.int .u8)), (35, .d .bool)], [.row 9 .str]⟩
def z2m : XS := .or .normal z3z.xe (.one (.exit 1) z4a.xe)
theorem z7y : z2m.OK := XS.or_ok (z0f z3z) (XS.one_ok (z0f z4a))
def z5h : Shp := ⟨58, 0, [(4, .wn 0 .str)], [.row 9 .str]⟩
def z5i : Shp := ⟨58, 0, [(2, .d (.sl .str)), (3, .d (.int .i64))], []⟩
def z1j : XS := .or (.exit 0) z5h.xe (.one .ret z5i.xe)
theorem za9 : z1j.OK := XS.or_ok (z0f z5h) (XS.one_ok (z0f z5i))
def z1k : Shp := ⟨58, 0, [(0, .d .str), (4, .wn 0 .str), (5, .d (.int .i64)), (6, .d (.int .i64))], [.row 9 .str]⟩
abbrev z3y := (List Int) × Int × Int × (List (List Int))
abbrev z6p := ((List (List Int))) ⊕ ((List (List Int)) × Int)
def z3x (t0 : List Int) (t5 : Int) (i : Int) (out : List (List Int)) : Option (z3y ⊕ z6p) :=
 z0i (List.length t0) (
 bif leI i (List.length t0 : Nat) then
 (show Option (((List Int) × Int × Int × (List (List Int))) ⊕ ((List Int) × Int × Int × (List Int) × Int × Int × Bool × (List (List Int)))) from
 z0i (List.length t0) (
 bif ltI i (List.length t0 : Nat) then
 (idxI t0 i).bind fun x =>
 bif neI x 47 then
 bif Nat.beq (List.length out) (List.length out) then
 some (.inr (t0, t5, i, t0, i, x, neI x 47, out))
 else none
 else
 bif Nat.beq (List.length out) (List.length out) then
 some (.inl (t0, t5, i, out))
 else none
 else
 bif Nat.beq (List.length out) (List.length out) then
 some (.inl (t0, t5, i, out))
 else none)).bind fun j =>
 Sum.elim (fun y =>
 bif subOk y.2.1 y.2.2.1 (List.length y.1) then
 (zd0 (subL y.1 y.2.1 y.2.2.1)).bind fun r =>
 bif !r then
 some (.inr (.inr ([], 20)))
 else
 z0i (List.length y.2.2.2) (
 bif eqI (List.length y.2.2.2 : Nat) 10 then
 some (.inr (.inr ([], 20)))
 else
 bif subOk y.2.1 y.2.2.1 (List.length y.1) then
 bif Nat.beq (List.length y.2.2.2) (List.length y.2.2.2) then
 appG (List.length y.2.2.2) (List.length ([subL y.1 y.2.1 y.2.2.1] : List (List Int))) 16 fun _ =>
 bif Nat.beq (List.length (y.2.2.2 ++ ([subL y.1 y.2.1 y.2.2.1] : List (List Int)))) (List.length (y.2.2.2 ++ ([subL y.1 y.2.1 y.2.2.1] : List (List Int)))) then
 some (.inl (y.1, W64 (y.2.2.1 + 1), W64 (y.2.2.1 + 1), y.2.2.2 ++ ([subL y.1 y.2.1 y.2.2.1] : List (List Int))))
 else none
 else none
 else none)
 else none) (fun y2 =>
 bif Nat.beq (List.length y2.2.2.2.2.2.2.2) (List.length y2.2.2.2.2.2.2.2) then
 some (.inl (y2.1, y2.2.1, W64 (y2.2.2.1 + 1), y2.2.2.2.2.2.2.2))
 else none) j
 else
 bif Nat.beq (List.length out) (List.length out) then
 some (.inr (.inl out))
 else none)
def z0n (s : z3y) : Option (z3y ⊕ z6p) := z3x s.1 s.2.1 s.2.2.1 s.2.2.2
theorem zaq : SoundD Tryd.prog (.loop (subC (bodyC Tryd.f11) [1, 1, 1, 1, 1, 0, 1, 0, 0])) (loopD z1k.xe z1j (loopC z0n)) :=
 z5s (S := z1k.xe) (X := z1j) zeu (h := (.two .no (.two (.join (fun _ => z2m) .no .no) .no))) (z1n [.xs (fun _ => z2m)] (by kernel_rfl) ⟨(zn5 z7y), trivial⟩) (z0f z1k) za9 z0n (fun s => by kernel_rfl)
def zey : Shp := ⟨1, 0, [(0, .tu [.d (.sl .str), .d (.int .i64)])], []⟩
def zhl : XS := .one .ret zey.xe
theorem zl0 : zhl.OK := XS.one_ok (z0f zey)
def z9v (t0 : List Int) : Option (((List (List Int)) × Int)) :=
 bif eqS t0 ([47] : List Int) then
 some ([], 0)
 else
 bif eqS t0 ([] : List Int) then
 some ([], 20)
 else
 z0i (List.length t0) (
 bif ltI 120 (List.length t0 : Nat) then
 some ([], 20)
 else
 (idxI t0 0).bind fun x =>
 bif neI x 47 then
 some ([], 20)
 else
 bif Nat.beq 0 (List.length ([] : List (List Int))) then
 (loopC z0n (t0, 1, 1, ([] : List (List Int)))).bind fun o =>
 Sum.elim (fun y =>
 winK y 0 (List.length y) fun w =>
 some (w, 0)) (fun y2 =>
 some (y2.1, y2.2)) o
 else none)
def zh9 : Sig := ⟨11, [.d .str], [], 0, zhl⟩
def zfi (x : (List Int)) : Option (((List (List Int)) × Int)) := z9v x
theorem znb : FnOK Tryd.prog zh9 zfi :=
 fn_ok zeu (h := (.two .no (.two .no (.two .no (.two .no (.two .no (.two (.two .no (.over (loopD z1k.xe z1j (loopC z0n)))) .no))))))) Tryd.func11 (z1n [.den (.loop (subC (bodyC Tryd.f11) [1, 1, 1, 1, 1, 0, 1, 0, 0])) (loopD z1k.xe z1j (loopC z0n))] (by kernel_rfl) ⟨zaq, trivial⟩) (by kernel_rfl) zl0 (fun x => by kernel_rfl)
end Go.Proofs.YtgpmclpgcmgajaaDoor
set_option maxRecDepth 100000
set_option linter.unusedVariables false
set_option linter.unusedSimpArgs false
namespace Go.Proofs.YtgpmclpgcmgajaaDoor
open Go.Tm Go.Ab Go.Lib
def okI (x : Int) : Bool := z7b x || decide (48 ≤ x ∧ x ≤ 57) || (decide (x = 46) || decide (x = 95) || decide (x = 45))
def nameI (s : List Int) : Bool := decide (1 ≤ s.length ∧ s.length ≤ 12) && !decide (s = [46]) && !decide (s = [46, 46]) && s.all okI
theorem b8_eq {x : Int} (hx : 0 ≤ x ∧ x < 256) (c : UInt8) : (b8 x == c) = decide (x = c.toNat) := by
 rw [Bool.eq_iff_iff, beq_iff_eq, decide_eq_true_eq]
 constructor
 · intro e; rw [← e, zb2 hx]
 · intro e
   apply UInt8.toNat_inj.1
   have := zb2 hx
   omega
theorem zuo {x : Int} (hx : 0 ≤ x ∧ x < 256) : okc (b8 x) = okI x := by
 unfold okc okI
 have h := zb2 hx
 rw [h, b8_eq hx, b8_eq hx, b8_eq hx]
 have : decide (48 ≤ (b8 x).toNat ∧ (b8 x).toNat ≤ 57) = decide (48 ≤ x ∧ x ≤ 57) := by
   rw [Bool.eq_iff_iff, decide_eq_true_eq, decide_eq_true_eq]; omega
 rw [this]; rfl
theorem zw3 {s t : List Int} (hs : Bs s) (ht : Bs t) : s.map b8 = t.map b8 ↔ s = t := by
 constructor
 · intro h
   induction s generalizing t with
   | nil => cases t with
     | nil => rfl
     | cons y t => simp at h
   | cons x s ih => cases t with
     | nil => simp at h
     | cons y t =>
       simp only [List.map_cons, List.cons.injEq] at h
       rw [ziw (hs x (by simp)) (ht y (by simp)) h.1, ih (fun z hz => hs z (by simp [hz])) (fun z hz => ht z (by simp [hz])) h.2]
 · rintro rfl; rfl
theorem zyt {s : List Int} (hb : Bs s) : nameB (ba s) = nameI s := by
 unfold nameB nameI
 have e0 : (ba s).data.toList = s.map b8 := zdh s
 rw [e0, z5n]
 have h1 : (s.map b8 == [46]) = decide (s = [46]) := by
   rw [Bool.eq_iff_iff, beq_iff_eq, decide_eq_true_eq]
   exact zw3 (t := [46]) hb (fun x hx => by simp at hx; subst hx; decide)
 have h2 : (s.map b8 == [46, 46]) = decide (s = [46, 46]) := by
   rw [Bool.eq_iff_iff, beq_iff_eq, decide_eq_true_eq]
   exact zw3 (t := [46, 46]) hb (fun x hx => by simp at hx; subst hx; decide)
 have h3 : (s.map b8).all okc = s.all okI := by
   rw [List.all_map]
   rw [Bool.eq_iff_iff, List.all_eq_true, List.all_eq_true]
   constructor
   · intro h x hx; rw [← zuo (hb x hx)]; exact h x hx
   · intro h x hx; show okc (b8 x) = true; rw [zuo (hb x hx)]; exact h x hx
 rw [h1, h2, h3]
theorem ztb {s : List Int} (hb : Bs s) (hl : s.length ≤ 1000) : zh4 s = some (nameI s) := by
 unfold zh4 zch
 rw [ble_t (by omega), zyt hb]; rfl
theorem zj6 {s : List Int} (hb : Bs s) (hl : s.length ≤ 1000) : zb4 s = some (canon s) := by
 unfold zb4 zch
 rw [ble_t (by omega), zv6 hb]; rfl
theorem zmq {s : List Int} (hb : Bs s) (hl : s.length ≤ 1000) : zax s = some (nameI s) := by
 refine ok_is ?_
 unfold zax nameI
 repeat' first
   | (dsimp only [Int.toNat_natCast, List.length_nil])
   | with_reducible first | refine z1s ?_ | refine z1o ?_ | refine z0m ?_ | refine z1p ?_ | refine z0v ?_ | refine z2p ?_ | refine qs ?_ | refine qb ?_ | refine z2h ?_ | refine qw ?_ | refine z2i ?_ | refine z2j ?_ | refine qi ?_ | refine qg (h := ?_) | refine qx (h := ?_) | refine qy (h := ?_) | refine qa ?_ | refine qc ?_ | refine ql ?_ | refine qp ?_ | refine z1g ?_ | rfl
   | (with_reducible first | refine ok_lt ?_ ?_ | refine ok_le ?_ ?_ | refine z2g ?_ ?_ | refine z2l ?_ ?_ | refine z2k ?_ ?_ | refine qu ?_ ?_ | refine ok_if ?_ ?_) <;> intro _ <;> try (exfalso; omega)
 · rename_i h; subst h; rfl
 · rename_i h1 h2; rw [decide_eq_false (p := 1 ≤ s.length ∧ _) (by omega)]; rfl
 · rename_i h1 h2 h3; subst h3; rfl
 · rename_i h1 h2 h3 h4; subst h4; rfl
 · rename_i h1 h2 h3 h4
   have hpos : 1 ≤ s.length := by
     cases s with
     | nil => exact absurd rfl h1
     | cons x l => simp
   have e : (decide (1 ≤ s.length ∧ s.length ≤ 12) && !decide (s = [46]) && !decide (s = [46, 46]) && s.all okI) = s.all okI := by
     rw [decide_eq_true (p := 1 ≤ s.length ∧ _) ⟨hpos, by omega⟩, decide_eq_false h3, decide_eq_false h4]; simp
   rw [e]
   refine zlv s.length (fun i _ => (s, (i : Int))) (fun i (_ : Unit) => (s.take i).all okI = true) () rfl rfl (fun _ hall => ?_) fun i _ hi hall => ?_
   · unfold z1f z6j
     dsimp only
     repeat' first
       | (dsimp only [Int.toNat_natCast, List.length_nil])
       | with_reducible first | refine z1s ?_ | refine z1o ?_ | refine z0m ?_ | refine z1p ?_ | refine z0v ?_ | refine z2p ?_ | refine qs ?_ | refine qb ?_ | refine z2h ?_ | refine qw ?_ | refine z2i ?_ | refine z2j ?_ | refine qi ?_ | refine qg (h := ?_) | refine qx (h := ?_) | refine qy (h := ?_) | refine qa ?_ | refine qc ?_ | refine ql ?_ | refine qp ?_ | refine z1g ?_ | rfl
       | (with_reducible first | refine ok_lt ?_ ?_ | refine ok_le ?_ ?_ | refine z2g ?_ ?_ | refine z2l ?_ ?_ | refine z2k ?_ ?_ | refine qu ?_ ?_ | refine ok_if ?_ ?_) <;> intro _ <;> try (exfalso; omega)
     rw [List.take_length] at hall
     exact hall.symm
   · unfold z1f z6j
     dsimp only
     have hx := hb s[i] (List.getElem_mem hi)
     have hstep : okI s[i] = true → (s.take (i + 1)).all okI = true := fun h => by
       rw [List.take_succ_eq_append_getElem hi, List.all_append, hall, List.all_cons, h]; rfl
     have hno : okI s[i] = false → s.all okI = false := fun h => by
       rw [List.all_eq_false]; exact ⟨s[i], List.getElem_mem hi, by simp [h]⟩
     have hok : okI s[i] = (decide (97 ≤ s[i] ∧ s[i] ≤ 122) || decide (65 ≤ s[i] ∧ s[i] ≤ 90) || decide (48 ≤ s[i] ∧ s[i] ≤ 57) || (decide (s[i] = 46) || decide (s[i] = 95) || decide (s[i] = 45))) := rfl
     repeat' first
       | (dsimp only [Int.toNat_natCast, List.length_nil])
       | with_reducible first | refine z1s ?_ | refine z1o ?_ | refine z0m ?_ | refine z1p ?_ | refine z0v ?_ | refine z2p ?_ | refine qs ?_ | refine qb ?_ | refine z2h ?_ | refine qw ?_ | refine z2i ?_ | refine z2j ?_ | refine qi ?_ | refine qg (h := ?_) | refine qx (h := ?_) | refine qy (h := ?_) | refine qa ?_ | refine qc ?_ | refine ql ?_ | refine qp ?_ | refine z1g ?_ | rfl
       | (with_reducible first | refine ok_lt ?_ ?_ | refine ok_le ?_ ?_ | refine z2g ?_ ?_ | refine z2l ?_ ?_ | refine z2k ?_ ?_ | refine qu ?_ ?_ | refine ok_if ?_ ?_) <;> intro _ <;> try (exfalso; omega)
     all_goals first
       | (refine ⟨(), by rw [z6w (by omega)]; rfl, hstep ?_⟩; rw [hok]; simp only [Bool.or_eq_true, decide_eq_true_eq, Bool.not_eq_true', Bool.not_eq_false', decide_eq_false_iff_not] at *; omega)
       | (refine (hno ?_).symm; rw [hok]; simp only [Bool.or_eq_false_iff, Bool.or_eq_true, decide_eq_true_eq, Bool.not_eq_true', Bool.not_eq_false', decide_eq_false_iff_not] at *; omega)
end Go.Proofs.YtgpmclpgcmgajaaDoor
set_option maxRecDepth 100000
set_option linter.unusedVariables false
set_option linter.unusedSimpArgs false
namespace Go.Proofs.YtgpmclpgcmgajaaDoor
open Go.Tm Go.Ab Go.Lib
def cutI (c : Int) : List Int → List Int × List Int × Bool
 | [] => ([], [], false)
 | x :: l => if x = c then ([], l, true) else (x :: (cutI c l).1, (cutI c l).2.1, (cutI c l).2.2)
theorem ze3 (c : Int) : ∀ (s : List Int), (∀ x, x ∈ s → x ≠ c) → cutI c s = (s, [], false)
 | [], _ => rfl
 | x :: l, h => by rw [cutI, if_neg (h x (by simp)), ze3 c l fun y hy => h y (by simp [hy])]
theorem znc (c : Int) : ∀ (a b : List Int), (∀ x, x ∈ a → x ≠ c) → cutI c (a ++ c :: b) = (a, b, true)
 | [], b, _ => by simp [cutI]
 | x :: a, b, h => by rw [List.cons_append, cutI, if_neg (h x (by simp)), znc c a b fun y hy => h y (by simp [hy])]
theorem z8h (c : Int) : ∀ (s : List Int), ((∀ x, x ∈ s → x ≠ c) ∧ cutI c s = (s, [], false)) ∨ ∃ a b, (∀ x, x ∈ a → x ≠ c) ∧ s = a ++ c :: b ∧ cutI c s = (a, b, true)
 | [] => .inl ⟨(by intro x h; cases h), rfl⟩
 | y :: l => by
   by_cases h : y = c
   · subst h
     exact .inr ⟨[], l, (by intro x h; cases h), rfl, by simp [cutI]⟩
   · rcases z8h c l with ⟨h1, h2⟩ | ⟨a, b, h1, h2, h3⟩
     · have hm : ∀ x, x ∈ y :: l → x ≠ c := fun x hx => by
         rcases List.mem_cons.1 hx with rfl | hx
         · exact h
         · exact h1 x hx
       exact .inl ⟨hm, ze3 c _ hm⟩
     · refine .inr ⟨y :: a, b, fun x hx => ?_, by rw [h2]; rfl, ?_⟩
       · rcases List.mem_cons.1 hx with rfl | hx
         · exact h
         · exact h1 x hx
       · rw [cutI, if_neg h, h3]
theorem zmj {c : Int} (hc : 0 ≤ c ∧ c < 256) : ∀ (s : List Int), Bs s → (∀ x, x ∈ s → x ≠ c) → indexByte (s.map b8) (b8 c) = -1
 | [], _, _ => rfl
 | x :: l, hb, h => by
   have ih := zmj hc l (fun y hy => hb y (by simp [hy])) fun y hy => h y (by simp [hy])
   have hne : (b8 x == b8 c) = false := by
     rw [beq_eq_false_iff_ne]
     exact fun e => h x (by simp) (ziw (hb x (by simp)) hc e)
   rw [List.map_cons, indexByte, hne, ih]; rfl
theorem zik {c : Int} (hc : 0 ≤ c ∧ c < 256) : ∀ (a b : List Int), Bs a → (∀ x, x ∈ a → x ≠ c) → indexByte ((a ++ c :: b).map b8) (b8 c) = a.length
 | [], b, _, _ => by simp [indexByte]
 | x :: a, b, hb, h => by
   have ih := zik hc a b (fun y hy => hb y (by simp [hy])) fun y hy => h y (by simp [hy])
   have hne : (b8 x == b8 c) = false := by
     rw [beq_eq_false_iff_ne]
     exact fun e => h x (by simp) (ziw (hb x (by simp)) hc e)
   rw [List.cons_append, List.map_cons, indexByte, hne, ih]
   have : (((a.length : Nat) : Int) == -1) = false := by rw [beq_eq_false_iff_ne]; omega
   rw [this]
   simp
theorem zv3 (s : List Int) (c : Int) : zg1 s c = indexByte (s.map b8) (b8 c) := by
 unfold zg1
 rw [show (ba s).data.toList = s.map b8 from zdh s]
 rfl
theorem zxf {s : List Int} {c : Int} (hl : s.length ≤ 1000) : z3l s [c] = some (indexByte (s.map b8) (b8 c)) := by
 have hI : z2a s c = some (indexByte (s.map b8) (b8 c)) := by
   unfold z2a
   rw [z6e (by omega), zv3]
 unfold z3l
 have e1 : idxI [c] 0 = some c := rfl
 have e2 : eqI (([c] : List Int).length : Nat) 0 = false := rfl
 have e3 : eqI (([c] : List Int).length : Nat) 1 = true := rfl
 have e4 : eqS [c] s = true → s = [c] := fun h => (of_decide_eq_true h).symm
 rw [z6e (by simp), e2]
 simp only [cond_false, Option.bind_some, e1, e3, cond_true, hI]
 cases h : eqS [c] s with
 | false => rfl
 | true =>
   rw [e4 h]
   simp [indexByte]
theorem zva {s : List Int} {c : Int} (hb : Bs s) (hc : 0 ≤ c ∧ c < 256) (hl : s.length ≤ 1000) : z9t s [c] = some (cutI c s) := by
 have key : z3u s [c] = some (cutI c s) := by
   unfold z3u
   rw [zxf hl]
   simp only [Option.bind_some]
   rcases z8h c s with ⟨h1, h2⟩ | ⟨a, b, h1, h2, h3⟩
   · rw [zmj hc s hb h1, h2]; rfl
   · have hba : Bs a := fun x hx => hb x (by rw [h2]; simp [hx])
     have hlen : s.length = a.length + (b.length + 1) := by rw [h2]; simp
     have hi : indexByte (s.map b8) (b8 c) = a.length := by
       have := zik hc a b hba h1
       rw [← h2] at this
       exact this
     rw [hi, h3, leI_t (by omega), cond_true, zid (by omega), cond_true, z6e (by simp), z6w (by simp; omega)]
     have e : ((a.length : Int) + ((([c] : List Int).length : Nat) : Int)) = ((a.length + 1 : Nat) : Int) := by simp
     rw [e, zid (by omega), cond_true]
     have g1 : subL s 0 (a.length : Int) = a := by simp [subL, h2]
     have g2 : subL s ((a.length + 1 : Nat) : Int) (s.length : Int) = b := by
       simp only [subL, Int.toNat_natCast]
       rw [hlen, h2, List.drop_append, List.drop_eq_nil_of_le (by omega), List.nil_append, show a.length + 1 - a.length = 1 by omega]
       simp only [List.drop_succ_cons, List.drop_zero]
       exact List.take_of_length_le (by omega)
     rw [g1, g2]
 unfold z9t
 rw [key]; rfl
theorem zsj : ∀ (p q : List Int) (a : Int), val a (p ++ q) = val (val a p) q
 | [], q, a => rfl
 | x :: p, q, a => by rw [List.cons_append, val, val, zsj p q]
theorem zr6 (t : List Int) : (t.takeWhile isD).all isD = true := by
 rw [List.all_eq_true]
 intro x hx
 induction t with
 | nil => simp at hx
 | cons y t ih =>
   rw [List.takeWhile_cons] at hx
   split at hx
   · rcases List.mem_cons.1 hx with rfl | hx
     · assumption
     · exact ih hx
   · cases hx
theorem zht (p q : List Int) (h : p.all isD = true) : (p ++ q).takeWhile isD = p ++ q.takeWhile isD := by
 induction p with
 | nil => rfl
 | cons x p ih =>
   rw [List.all_cons, Bool.and_eq_true] at h
   rw [List.cons_append, List.takeWhile_cons, if_pos h.1, ih h.2]; rfl
def numI (t : List Int) (from_ : Nat) : Int := if canon (t.takeWhile isD) = true then ((from_ + (t.takeWhile isD).length : Nat) : Int) else -1
theorem zvs {p q : List Int} (h : (p ++ q).all isD = true) (hv : 4294967295 < val 0 p) : canon (p ++ q) = false := by
 rw [List.all_append, Bool.and_eq_true] at h
 have h0 : 0 ≤ val 0 p := zj4 p 0 (by omega) h.1
 have := zj4 q (val 0 p) h0 h.2
 unfold canon
 rw [zsj, decide_eq_false (by omega), Bool.and_false]
theorem zta {p q : List Int} (h2 : 2 ≤ p.length) (h : p.head? = some 48) : canon (p ++ q) = false := by
 have : lead (p ++ q) = true := by
   unfold lead
   rw [decide_eq_true (by simp; omega), Bool.true_and, decide_eq_true_eq]
   cases p with
   | nil => simp at h2
   | cons x p => simpa using h
 unfold canon
 rw [this]; simp
theorem znt {s : List Int} (hb : Bs s) (hl : s.length ≤ 1000) (at_ : Nat) (ha : at_ ≤ s.length) : z8j s (at_ : Int) = some (numI (s.drop at_) at_) := by
 refine ok_is ?_
 unfold z8j
 have hlen : (s.drop at_).length = s.length - at_ := List.length_drop
 refine z1g ?_
 refine zlv (s.length - at_) (fun i _ => (s, (at_ : Int), val 0 ((s.drop at_).take i), ((at_ + i : Nat) : Int)))
   (fun i (_ : Unit) => ((s.drop at_).take i).all isD = true ∧ 0 ≤ val 0 ((s.drop at_).take i) ∧ val 0 ((s.drop at_).take i) ≤ 4294967295 ∧ lead ((s.drop at_).take i) = false) () rfl ⟨by simp, by simp [val], by simp [val], by simp [lead]⟩ (fun _ hI => ?_) fun i _ hi hI => ?_
 · obtain ⟨h1, h2, h3, h4⟩ := hI
   unfold z1e z6k
   dsimp only
   have htw : (s.drop at_).takeWhile isD = s.drop at_ := by
     have := zht (s.drop at_) [] (by rw [← hlen, List.take_length] at h1; exact h1)
     simpa using this
   rw [← hlen, List.take_length] at h1 h2 h3 h4
   repeat' first
     | (dsimp only [Int.toNat_natCast, List.length_nil])
     | with_reducible first | refine z1s ?_ | refine z1o ?_ | refine z0m ?_ | refine z1p ?_ | refine z0v ?_ | refine z2p ?_ | refine qs ?_ | refine qb ?_ | refine z2h ?_ | refine qw ?_ | refine z2i ?_ | refine z2j ?_ | refine qi ?_ | refine qg (h := ?_) | refine qx (h := ?_) | refine qy (h := ?_) | refine qa ?_ | refine qc ?_ | refine ql ?_ | refine qp ?_ | refine z1g ?_ | rfl
     | (with_reducible first | refine ok_lt ?_ ?_ | refine ok_le ?_ ?_ | refine z2g ?_ ?_ | refine z2l ?_ ?_ | refine z2k ?_ ?_ | refine qu ?_ ?_ | refine ok_if ?_ ?_) <;> intro _ <;> try (exfalso; omega)
   · unfold numI
     rw [htw]
     rename_i h
     have : s.drop at_ = [] := List.length_eq_zero_iff.1 (by omega)
     rw [this]; rfl
   · unfold numI
     rw [htw]
     rename_i h
     have hne : s.drop at_ ≠ [] := fun e => by rw [e] at hlen; simp at hlen; omega
     have : canon (s.drop at_) = true := by
       unfold canon
       rw [h1, h4, decide_eq_true h3]
       simp [hne]
     rw [if_pos this]
     congr 1
     omega
 · obtain ⟨h1, h2, h3, h4⟩ := hI
   unfold z1e z6k
   dsimp only
   have hi' : i < (s.drop at_).length := by omega
   have hj : at_ + i < s.length := by omega
   have hx : (s.drop at_)[i] = s[at_ + i] := by simp
   have hbx := hb s[at_ + i] (List.getElem_mem hj)
   have htk : (s.drop at_).take (i + 1) = (s.drop at_).take i ++ [s[at_ + i]] := by rw [List.take_succ_eq_append_getElem hi', hx]
   have hsplit : s.drop at_ = (s.drop at_).take i ++ s[at_ + i] :: (s.drop at_).drop (i + 1) := by
     rw [← hx, ← List.drop_eq_getElem_cons hi', List.take_append_drop]
   have hstop : isD s[at_ + i] = false → (s.drop at_).takeWhile isD = (s.drop at_).take i := fun hd => by
     conv => lhs; rw [hsplit]
     rw [zht _ _ h1, List.takeWhile_cons, if_neg (by simp [hd]), List.append_nil]
   have hgo : isD s[at_ + i] = true → ((s.drop at_).take (i + 1)).all isD = true := fun hd => by
     rw [htk, List.all_append, h1, List.all_cons, hd]; rfl
   have hmore : isD s[at_ + i] = true → ∃ q, (s.drop at_).takeWhile isD = (s.drop at_).take (i + 1) ++ q ∧ ((s.drop at_).take (i + 1) ++ q).all isD = true := fun hd => by
     refine ⟨((s.drop at_).drop (i + 1)).takeWhile isD, ?_, ?_⟩
     · conv => lhs; rw [← List.take_append_drop (i + 1) (s.drop at_)]
       exact zht _ _ (hgo hd)
     · rw [List.all_append, hgo hd, zr6]; rfl
   have hval : val 0 ((s.drop at_).take (i + 1)) = 10 * val 0 ((s.drop at_).take i) + (s[at_ + i] - 48) := by rw [htk, zl1]
   have hlenT : ((s.drop at_).take (i + 1)).length = i + 1 := by rw [List.length_take]; omega
   have hhead : ((s.drop at_).take (i + 1)).head? = some (s[at_]'(by omega)) := by
     rw [List.head?_take, if_neg (by omega), List.head?_drop, List.getElem?_eq_getElem]
   have hw : ∀ x : Int, 48 ≤ x → x ≤ 57 → W64 (WU8 (x - 48)) = x - 48 := fun x h1 h2 => by rw [zz6 (by omega), z6w (by omega)]
   have hend : isD s[at_ + i] = false → numI (s.drop at_) at_ = if i = 0 then -1 else ((at_ + i : Nat) : Int) := fun hd => by
     unfold numI
     rw [hstop hd]
     have hl2 : ((s.drop at_).take i).length = i := by rw [List.length_take]; omega
     by_cases h0 : i = 0
     · rw [if_pos h0, h0]; rfl
     · rw [if_neg h0]
       have : canon ((s.drop at_).take i) = true := by
         unfold canon
         rw [h1, h4, decide_eq_true h3]
         have : (s.drop at_).take i ≠ [] := fun e => by rw [e] at hl2; simp at hl2; omega
         simp only [Bool.and_true, Bool.not_false, Bool.not_eq_true', List.isEmpty_eq_false_iff]
         exact this
       rw [if_pos this, hl2]
   have hW : ∀ (h : isD s[at_ + i] = true), (W64 ((W64 (10 * val 0 ((s.drop at_).take i))) + (W64 (WU8 (s[at_ + i] - 48))))) = val 0 ((s.drop at_).take (i + 1)) := fun h => by
     rw [z4x] at h
     rw [hw _ h.1 h.2, z6w (n := 10 * _) (by omega), z6w (by omega), hval]
   repeat' first
     | (dsimp only [Int.toNat_natCast, List.length_nil])
     | with_reducible first | refine z1s ?_ | refine z1o ?_ | refine z0m ?_ | refine z1p ?_ | refine z0v ?_ | refine z2p ?_ | refine qs ?_ | refine qb ?_ | refine z2h ?_ | refine qw ?_ | refine z2i ?_ | refine z2j ?_ | refine qi ?_ | refine qg (h := ?_) | refine qx (h := ?_) | refine qy (h := ?_) | refine qa ?_ | refine qc ?_ | refine ql ?_ | refine qp ?_ | refine z1g ?_ | rfl
     | (with_reducible first | refine ok_lt ?_ ?_ | refine ok_le ?_ ?_ | refine z2g ?_ ?_ | refine z2l ?_ ?_ | refine z2k ?_ ?_ | refine qu ?_ ?_ | refine ok_if ?_ ?_) <;> intro _ <;> try (exfalso; omega)
   · rename_i _ d1 d2 hbig
     have hd : isD s[at_ + i] = true := z4x.2 ⟨d1, d2⟩
     rw [hW hd] at hbig
     obtain ⟨q, q1, q2⟩ := hmore hd
     unfold numI
     rw [q1, zvs q2 hbig]; rfl
   · rename_i _ d1 d2 hsm hlt h48
     have hd : isD s[at_ + i] = true := z4x.2 ⟨d1, d2⟩
     rw [z6w (by omega), z6w (by omega)] at hlt
     obtain ⟨q, q1, q2⟩ := hmore hd
     unfold numI
     rw [q1, zta (by rw [hlenT]; omega) (by rw [hhead, h48])]; rfl
   · rename_i _ d1 d2 hsm hlt h48
     have hd : isD s[at_ + i] = true := z4x.2 ⟨d1, d2⟩
     rw [hW hd] at hsm
     refine ⟨(), by rw [hW hd, z6w (by omega)]; rfl, hgo hd, ?_, by omega, ?_⟩
     · rw [z4x] at hd; omega
     · unfold lead
       rw [hhead, decide_eq_false (p := some s[at_] = some 48) (fun e => h48 (Option.some.inj e)), Bool.and_false]
   · rename_i _ d1 d2 hsm hlt
     have hd : isD s[at_ + i] = true := z4x.2 ⟨d1, d2⟩
     rw [hW hd] at hsm
     rw [z6w (by omega), z6w (by omega)] at hlt
     refine ⟨(), by rw [hW hd, z6w (by omega)]; rfl, hgo hd, ?_, by omega, ?_⟩
     · rw [z4x] at hd; omega
     · unfold lead
       rw [decide_eq_false (by rw [hlenT]; omega), Bool.false_and]
   all_goals
     rename_i h0
     have hd : isD s[at_ + i] = false := by
       cases h : isD s[at_ + i] with
       | false => rfl
       | true => rw [z4x] at h; omega
     rw [hend hd]
   · rw [if_pos (by omega)]
   · rw [if_neg (by omega)]
   · rw [if_pos (by omega)]
   · rw [if_neg (by omega)]
def lostI : List Int := [108, 111, 115, 116, 43, 102, 111, 117, 110, 100]
def partI (s : List Int) : Bool := decide (s = lostI) || (nameI (cutI 126 s).1 && (!(cutI 126 s).2.2 || ((cutI 46 (cutI 126 s).2.1).2.2 && canon (cutI 46 (cutI 126 s).2.1).1 && canon (cutI 46 (cutI 126 s).2.1).2.1)))
theorem zus {c : Int} {s : List Int} (hb : Bs s) : Bs (cutI c s).1 ∧ Bs (cutI c s).2.1 ∧ (cutI c s).1.length ≤ s.length ∧ (cutI c s).2.1.length ≤ s.length := by
 rcases z8h c s with ⟨_, h2⟩ | ⟨a, b, _, h2, h3⟩
 · rw [h2]
   exact ⟨hb, (by intro x h; cases h), Nat.le_refl _, Nat.zero_le _⟩
 · rw [h3]
   exact ⟨fun x hx => hb x (by rw [h2]; simp [hx]), fun x hx => hb x (by rw [h2]; simp [hx]), by rw [h2]; simp, by rw [h2]; simp; omega⟩
theorem zyq {s : List Int} (hb : Bs s) (hl : s.length ≤ 1000) : zeh s = some (partI s) := by
 obtain ⟨b1, b2, b3, b4⟩ := zus (c := 126) hb
 obtain ⟨d1, d2, d3, d4⟩ := zus (c := 46) b2
 unfold zeh partI
 rw [zva hb (by decide) hl]
 simp only [Option.bind_some]
 rw [ztb b1 (by omega)]
 simp only [Option.bind_some]
 rw [zva b2 (by decide) (by omega)]
 simp only [Option.bind_some]
 rw [zj6 d1 (by omega), zj6 d2 (by omega)]
 simp only [Option.bind_some]
 by_cases h0 : s = lostI
 · have : eqS s ([108, 111, 115, 116, 43, 102, 111, 117, 110, 100] : List Int) = true := eqS_t h0
   rw [this, decide_eq_true h0]; rfl
 · have : eqS s ([108, 111, 115, 116, 43, 102, 111, 117, 110, 100] : List Int) = false := eqS_f h0
   rw [this, decide_eq_false h0]
   cases nameI (cutI 126 s).1 <;> cases (cutI 126 s).2.2 <;> cases (cutI 46 (cutI 126 s).2.1).2.2 <;> cases canon (cutI 46 (cutI 126 s).2.1).1 <;> cases canon (cutI 46 (cutI 126 s).2.1).2.1 <;> rfl
theorem zec {s : List Int} (h : canon s = true) : s.all isD = true ∧ s ≠ [] := by
 unfold canon at h
 simp only [Bool.and_eq_true, Bool.not_eq_true', List.isEmpty_eq_false_iff] at h
 exact ⟨h.1.1.2, h.1.1.1⟩
theorem zyk {s : List Int} (h : s.all isD = true) : s.takeWhile isD = s := by simpa using zht s [] h
theorem zz2 {s : List Int} (h : nameI s = true) : ∀ x, x ∈ s → x ≠ 126 := by
 unfold nameI at h
 simp only [Bool.and_eq_true] at h
 intro x hx e
 subst e
 have := List.all_eq_true.1 h.2 126 hx
 revert this
 decide
theorem zse (d : List Int) (y : Int) (r : List Int) (hd : d.all isD = true) (hy : isD y = false) : (d ++ y :: r).takeWhile isD = d := by
 rw [zht _ _ hd, List.takeWhile_cons, if_neg (by simp [hy]), List.append_nil]
theorem zwa (t : List Int) : t = t.takeWhile isD ∨ ∃ y r, t = t.takeWhile isD ++ y :: r ∧ isD y = false := by
 induction t with
 | nil => exact .inl rfl
 | cons x t ih =>
   rw [List.takeWhile_cons]
   cases h : isD x with
   | false => exact .inr ⟨x, t, by simp, h⟩
   | true =>
     rcases ih with ih | ⟨y, r, h1, h2⟩
     · left; simp only [if_true]; rw [← ih]
     · right; refine ⟨y, r, ?_, h2⟩; simp only [if_true]; rw [List.cons_append, ← h1]
theorem zoo {d : List Int} (h : d.all isD = true) : ∀ x, x ∈ d → x ≠ 46 := fun x hx e => by
 have := List.all_eq_true.1 h x hx
 subst e
 revert this; decide
def tagR (t : List Int) : Bool := (cutI 46 t).2.2 && canon (cutI 46 t).1 && canon (cutI 46 t).2.1
theorem zyv {t : List Int} (h : canon (t.takeWhile isD) = false) : tagR t = false := by
 unfold tagR
 rcases z8h 46 t with ⟨_, h2⟩ | ⟨a, b, h1, h2, h3⟩
 · rw [h2]; rfl
 · rw [h3]
   cases hc : canon a with
   | false => simp
   | true =>
     have ha := (zec hc).1
     rw [h2, zse a 46 b ha (by decide), hc] at h
     cases h
theorem zz3 {t : List Int} (h : t = t.takeWhile isD) : tagR t = false := by
 unfold tagR
 rw [ze3 46 t (zoo (by rw [h]; exact zr6 _))]; rfl
theorem zvr {t r : List Int} {y : Int} (h : t = t.takeWhile isD ++ y :: r) (hy : isD y = false) (h46 : y ≠ 46) : tagR t = false := by
 unfold tagR
 rcases z8h 46 t with ⟨_, h2⟩ | ⟨a, b, h1, h2, h3⟩
 · rw [h2]; rfl
 · rw [h3]
   cases hc : canon a with
   | false => simp
   | true =>
     have ha := (zec hc).1
     have e := h
     rw [h2, zse a 46 b ha (by decide)] at e
     have := List.append_cancel_left e
     simp only [List.cons.injEq] at this
     exact absurd this.1.symm h46
theorem zz0 {t r : List Int} (h : t = t.takeWhile isD ++ 46 :: r) : tagR t = (canon (t.takeWhile isD) && canon r) := by
 unfold tagR
 have := znc 46 (t.takeWhile isD) r (zoo (zr6 t))
 rw [← h] at this
 rw [this]; rfl
theorem zy5 (r : List Int) (k : Nat) : eqI (numI r k) ((k + r.length : Nat) : Int) = canon r := by
 have hself : canon r = true → r.takeWhile isD = r := fun h => zyk (zec h).1
 cases hc : canon r with
 | true =>
   unfold numI
   rw [hself hc, hc, if_pos rfl]
   exact eqI_t rfl
 | false =>
   refine eqI_f ?_
   unfold numI
   split
   · rename_i h
     intro e
     have e2 : (r.takeWhile isD).length = r.length := by omega
     have : r.takeWhile isD = r := (List.takeWhile_prefix isD).eq_of_length e2
     rw [this, hc] at h
     cases h
   · omega
theorem zmx {s : List Int} (hb : Bs s) (hl : s.length ≤ 1000) : zd0 s = some (partI s) := by
 refine ok_is ?_
 unfold zd0
 rw [zmq hb hl]
 have hnm : nameI s = true → partI s = true := fun h => by
   unfold partI
   rw [ze3 126 s (zz2 h), h]; simp
 repeat' first
   | (dsimp only [Int.toNat_natCast, List.length_nil])
   | with_reducible first | refine z1s ?_ | refine z1o ?_ | refine z0m ?_ | refine z1p ?_ | refine z0v ?_ | refine z2p ?_ | refine qs ?_ | refine qb ?_ | refine z2h ?_ | refine qw ?_ | refine z2i ?_ | refine z2j ?_ | refine qi ?_ | refine qg (h := ?_) | refine qx (h := ?_) | refine qy (h := ?_) | refine qa ?_ | refine qc ?_ | refine ql ?_ | refine qp ?_ | refine z1g ?_ | rfl
   | (with_reducible first | refine ok_lt ?_ ?_ | refine ok_le ?_ ?_ | refine z2g ?_ ?_ | refine z2l ?_ ?_ | refine z2k ?_ ?_ | refine qu ?_ ?_ | refine ok_if ?_ ?_) <;> intro _ <;> try (exfalso; omega)
 · rename_i h
   unfold partI
   rw [decide_eq_true (show s = lostI from h)]; rfl
 · rename_i h1 h2
   exact (hnm h2).symm
 · rename_i h1 h2
   have hp : partI s = (nameI (cutI 126 s).1 && (!(cutI 126 s).2.2 || tagR (cutI 126 s).2.1)) := by
     unfold partI
     rw [decide_eq_false (show ¬ s = lostI from h1)]; rfl
   rw [hp]
   refine zlv s.length (fun i _ => (s, (i : Int))) (fun i (_ : Unit) => ∀ x, x ∈ s.take i → x ≠ 126) () rfl (by simp) (fun _ hall => ?_) fun i _ hi hall => ?_
   · unfold z1d z6i
     dsimp only
     repeat' first
       | (dsimp only [Int.toNat_natCast, List.length_nil])
       | with_reducible first | refine z1s ?_ | refine z1o ?_ | refine z0m ?_ | refine z1p ?_ | refine z0v ?_ | refine z2p ?_ | refine qs ?_ | refine qb ?_ | refine z2h ?_ | refine qw ?_ | refine z2i ?_ | refine z2j ?_ | refine qi ?_ | refine qg (h := ?_) | refine qx (h := ?_) | refine qy (h := ?_) | refine qa ?_ | refine qc ?_ | refine ql ?_ | refine qp ?_ | refine z1g ?_ | rfl
       | (with_reducible first | refine ok_lt ?_ ?_ | refine ok_le ?_ ?_ | refine z2g ?_ ?_ | refine z2l ?_ ?_ | refine z2k ?_ ?_ | refine qu ?_ ?_ | refine ok_if ?_ ?_) <;> intro _ <;> try (exfalso; omega)
     rw [List.take_length] at hall
     rw [ze3 126 s hall, h2]; rfl
   · unfold z1d z6i
     dsimp only
     have hsp : s = s.take i ++ s[i] :: s.drop (i + 1) := by rw [← List.drop_eq_getElem_cons hi, List.take_append_drop]
     by_cases h126 : s[i] = 126
     · have hcut : cutI 126 s = (s.take i, s.drop (i + 1), true) := by
         conv => lhs; rw [hsp, h126]
         exact znc 126 _ _ hall
       rw [hcut]
       dsimp only
       have hW : W64 ((i : Int) + 1) = ((i + 1 : Nat) : Int) := z9b (by omega)
       have hbt : Bs (s.take i) := fun x hx => hb x (List.mem_of_mem_take hx)
       have hbd : Bs (s.drop (i + 1)) := fun x hx => hb x (List.mem_of_mem_drop hx)
       have hsub : subL s 0 (i : Int) = s.take i := by simp [subL]
       rw [hW, znt hb hl (i + 1) (by omega), hsub, zmq hbt (by rw [List.length_take]; omega)]
       simp only [Option.bind_some]
       generalize htd : s.drop (i + 1) = t at *
       have htl : t.length = s.length - (i + 1) := by rw [← htd, List.length_drop]
       have hget : ∀ k (hk : k < t.length), t[k]? = s[i + 1 + k]? := fun k hk => by rw [← htd, List.getElem?_drop]
       by_cases hcn : canon (t.takeWhile isD) = true
       · have hnum : numI t (i + 1) = ((i + 1 + (t.takeWhile isD).length : Nat) : Int) := by unfold numI; rw [if_pos hcn]
         rw [hnum]
         have hspl := zwa t
         have htwl : (t.takeWhile isD).length ≤ t.length := (List.takeWhile_prefix isD).length_le
         have htd2 : tagR t = false ∨ ∃ r, t = t.takeWhile isD ++ 46 :: r := by
           rcases hspl with he | ⟨y, r, he, hy⟩
           · exact .inl (zz3 he)
           · by_cases h46 : y = 46
             · subst h46; exact .inr ⟨r, he⟩
             · exact .inl (zvr he hy h46)
         have hnext : ∀ (hk : i + 1 + (t.takeWhile isD).length < s.length), s[i + 1 + (t.takeWhile isD).length] = 46 → ∃ r, t = t.takeWhile isD ++ 46 :: r := fun hk hq => by
           rcases hspl with he | ⟨y, r, he, hy⟩
           · have : (t.takeWhile isD).length = t.length := by rw [← he]
             omega
           · have h1 := hget (t.takeWhile isD).length (by omega)
             have h2 : ∀ (d : List Int), t = d ++ y :: r → t[d.length]? = some y := fun d hd => by rw [hd, List.getElem?_append_right (Nat.le_refl _), Nat.sub_self]; rfl
             rw [h2 _ he, List.getElem?_eq_getElem hk, hq] at h1
             cases h1
             exact ⟨r, he⟩
         have hdot : ∀ r, t = t.takeWhile isD ++ 46 :: r → tagR t = canon r ∧ (∃ hk : i + 1 + (t.takeWhile isD).length < s.length, s[i + 1 + (t.takeWhile isD).length] = 46) ∧ s.drop (i + 1 + (t.takeWhile isD).length + 1) = r ∧ s.length = i + 1 + (t.takeWhile isD).length + 1 + r.length := fun r he => by
           have hlen := congrArg List.length he
           rw [List.length_append, List.length_cons] at hlen
           refine ⟨by rw [zz0 he, hcn, Bool.true_and], ⟨by omega, ?_⟩, ?_, by omega⟩
           · have h1 := hget (t.takeWhile isD).length (by omega)
             have h2 : ∀ (d : List Int), t = d ++ 46 :: r → t[d.length]? = some 46 := fun d hd => by rw [hd, List.getElem?_append_right (Nat.le_refl _), Nat.sub_self]; rfl
             rw [h2 _ he, List.getElem?_eq_getElem (by omega)] at h1
             exact (Option.some.inj h1).symm
           · have h3 : ∀ (d : List Int), t = d ++ 46 :: r → t.drop (d.length + 1) = r := fun d hd => by
               rw [hd, List.drop_append, List.drop_eq_nil_of_le (by omega), List.nil_append, show d.length + 1 - d.length = 1 by omega]; rfl
             have := h3 _ he
             rw [← htd, List.drop_drop] at this
             rw [htd] at this
             rw [← this]; congr 1
         have hW2 : W64 (((i + 1 + (t.takeWhile isD).length : Nat) : Int) + 1) = ((i + 1 + (t.takeWhile isD).length + 1 : Nat) : Int) := z9b (by omega)
         rw [hW2]
         generalize (t.takeWhile isD).length = m at *
         repeat' first
           | (dsimp only [Int.toNat_natCast, List.length_nil])
           | with_reducible first | refine z1s ?_ | refine z1o ?_ | refine z0m ?_ | refine z1p ?_ | refine z0v ?_ | refine z2p ?_ | refine qs ?_ | refine qb ?_ | refine z2h ?_ | refine qw ?_ | refine z2i ?_ | refine z2j ?_ | refine qi ?_ | refine qg (h := ?_) | refine qx (h := ?_) | refine qy (h := ?_) | refine qa ?_ | refine qc ?_ | refine ql ?_ | refine qp ?_ | refine z1g ?_ | rfl
           | (with_reducible first | refine ok_lt ?_ ?_ | refine ok_le ?_ ?_ | refine z2g ?_ ?_ | refine z2l ?_ ?_ | refine z2k ?_ ?_ | refine qu ?_ ?_ | refine ok_if ?_ ?_) <;> intro _ <;> try (exfalso; omega)
         · rename_i hn _ hge
           rw [hn]
           rcases htd2 with h | ⟨r, h⟩
           · rw [h]; rfl
           · obtain ⟨_, ⟨hk, _⟩, _, _⟩ := hdot r h
             exfalso; omega
         · rename_i hn _ hlt h46
           obtain ⟨r, h⟩ := hnext (by omega) h46
           obtain ⟨g1, _, g3, g4⟩ := hdot r h
           rw [znt hb hl (i + 1 + m + 1) (by omega), g3, g1, hn]
           have hend := zy5 r (i + 1 + m + 1)
           rw [← g4] at hend
           repeat' first
             | (dsimp only [Int.toNat_natCast, List.length_nil])
             | with_reducible first | refine z1s ?_ | refine z1o ?_ | refine z0m ?_ | refine z1p ?_ | refine z0v ?_ | refine z2p ?_ | refine qs ?_ | refine qb ?_ | refine z2h ?_ | refine qw ?_ | refine z2i ?_ | refine z2j ?_ | refine qi ?_ | refine qg (h := ?_) | refine qx (h := ?_) | refine qy (h := ?_) | refine qa ?_ | refine qc ?_ | refine ql ?_ | refine qp ?_ | refine z1g ?_ | rfl
             | (with_reducible first | refine ok_lt ?_ ?_ | refine ok_le ?_ ?_ | refine z2g ?_ ?_ | refine z2l ?_ ?_ | refine z2k ?_ ?_ | refine qu ?_ ?_ | refine ok_if ?_ ?_) <;> intro _ <;> try (exfalso; omega)
           rw [hend]; rfl
         · rename_i hn _ hlt h46
           rw [hn]
           rcases htd2 with h | ⟨r, h⟩
           · rw [h]; rfl
           · obtain ⟨_, ⟨hk, hq⟩, _, _⟩ := hdot r h
             exact absurd hq h46
         · rename_i hn
           rw [hn]; rfl
       · have hcn : canon (t.takeWhile isD) = false := by simpa using hcn
         have hnum : numI t (i + 1) = -1 := by unfold numI; rw [hcn]; rfl
         rw [hnum, zyv hcn]
         repeat' first
           | (dsimp only [Int.toNat_natCast, List.length_nil])
           | with_reducible first | refine z1s ?_ | refine z1o ?_ | refine z0m ?_ | refine z1p ?_ | refine z0v ?_ | refine z2p ?_ | refine qs ?_ | refine qb ?_ | refine z2h ?_ | refine qw ?_ | refine z2i ?_ | refine z2j ?_ | refine qi ?_ | refine qg (h := ?_) | refine qx (h := ?_) | refine qy (h := ?_) | refine qa ?_ | refine qc ?_ | refine ql ?_ | refine qp ?_ | refine z1g ?_ | rfl
           | (with_reducible first | refine ok_lt ?_ ?_ | refine ok_le ?_ ?_ | refine z2g ?_ ?_ | refine z2l ?_ ?_ | refine z2k ?_ ?_ | refine qu ?_ ?_ | refine ok_if ?_ ?_) <;> intro _ <;> try (exfalso; omega)
         all_goals simp
     · have hall' : ∀ x, x ∈ s.take (i + 1) → x ≠ 126 := fun x hx => by
         rw [List.take_succ_eq_append_getElem hi, List.mem_append] at hx
         rcases hx with hx | hx
         · exact hall x hx
         · simp at hx; subst hx; exact h126
       repeat' first
         | (dsimp only [Int.toNat_natCast, List.length_nil])
         | with_reducible first | refine z1s ?_ | refine z1o ?_ | refine z0m ?_ | refine z1p ?_ | refine z0v ?_ | refine z2p ?_ | refine qs ?_ | refine qb ?_ | refine z2h ?_ | refine qw ?_ | refine z2i ?_ | refine z2j ?_ | refine qi ?_ | refine qg (h := ?_) | refine qx (h := ?_) | refine qy (h := ?_) | refine qa ?_ | refine qc ?_ | refine ql ?_ | refine qp ?_ | refine z1g ?_ | rfl
         | (with_reducible first | refine ok_lt ?_ ?_ | refine ok_le ?_ ?_ | refine z2g ?_ ?_ | refine z2l ?_ ?_ | refine z2k ?_ ?_ | refine qu ?_ ?_ | refine ok_if ?_ ?_) <;> intro _ <;> try (exfalso; omega)
       exact ⟨(), by rw [z6w (by omega)]; rfl, hall'⟩
end Go.Proofs.YtgpmclpgcmgajaaDoor
set_option maxRecDepth 100000
set_option linter.unusedVariables false
set_option linter.unusedSimpArgs false
namespace Go.Proofs.YtgpmclpgcmgajaaDoor
open Go.Tm Go.Ab Go.Lib
def z1i (c : Int) : List Int → List (List Int)
 | [] => [[]]
 | x :: l => if x = c then [] :: z1i c l else match z1i c l with
   | [] => [[x]]
   | p :: ps => (x :: p) :: ps
theorem zc3 (c : Int) : ∀ (s : List Int), (∀ x, x ∈ s → x ≠ c) → z1i c s = [s]
 | [], _ => rfl
 | x :: l, h => by rw [z1i, if_neg (h x (by simp)), zc3 c l fun y hy => h y (by simp [hy])]
theorem zd8 (c : Int) : ∀ (a b : List Int), (∀ x, x ∈ a → x ≠ c) → z1i c (a ++ c :: b) = a :: z1i c b
 | [], b, _ => by simp [z1i]
 | x :: a, b, h => by rw [List.cons_append, z1i, if_neg (h x (by simp)), zd8 c a b fun y hy => h y (by simp [hy])]
theorem zo2 (c : Int) : ∀ (n : Nat) (s : List Int), s.length ≤ n → Bs s → ∀ p, p ∈ z1i c s → Bs p ∧ p.length ≤ s.length
 | n, s, hn, hb, p, hp => by
   rcases z8h c s with ⟨h1, _⟩ | ⟨a, b, h1, h2, _⟩
   · rw [zc3 c s h1] at hp
     simp at hp; subst hp
     exact ⟨hb, Nat.le_refl _⟩
   · rw [h2, zd8 c a b h1] at hp
     have hl : s.length = a.length + (b.length + 1) := by rw [h2]; simp
     rcases List.mem_cons.1 hp with rfl | hp
     · exact ⟨fun x hx => hb x (by rw [h2]; simp [hx]), by omega⟩
     · match n, hn with
       | 0, hn => omega
       | n + 1, hn =>
         have := zo2 c n b (by omega) (fun x hx => hb x (by rw [h2]; simp [hx])) p hp
         exact ⟨this.1, by omega⟩
theorem zjk {s : List Int} (hb : Bs s) : nums (s.map b8) = s := by
 unfold nums
 rw [List.map_map]
 conv => rhs; rw [← List.map_id s]
 exact List.map_congr_left fun x hx => zb2 (hb x hx)
theorem zo3 {c : Int} (hc : 0 ≤ c ∧ c < 256) : ∀ (n : Nat) (s : List Int), s.length ≤ n → Bs s → (splitK [b8 c] 0 ((s.map b8).count (b8 c)) (s.map b8)).map nums = z1i c s
 | n, s, hn, hb => by
   rcases z8h c s with ⟨h1, _⟩ | ⟨a, b, h1, h2, _⟩
   · have hcnt : (s.map b8).count (b8 c) = 0 := by
       rw [List.count_eq_zero]
       intro hm
       obtain ⟨x, hx, e⟩ := List.mem_map.1 hm
       exact h1 x hx (ziw (hb x hx) hc e)
     rw [hcnt, zc3 c s h1]
     simp only [splitK, List.map_cons, List.map_nil]
     rw [zjk hb]
   · have hba : Bs a := fun x hx => hb x (by rw [h2]; simp [hx])
     have hbb : Bs b := fun x hx => hb x (by rw [h2]; simp [hx])
     have hl : s.length = a.length + (b.length + 1) := by rw [h2]; simp
     have hca : (a.map b8).count (b8 c) = 0 := by
       rw [List.count_eq_zero]
       intro hm
       obtain ⟨x, hx, e⟩ := List.mem_map.1 hm
       exact h1 x hx (ziw (hba x hx) hc e)
     have hcnt : (s.map b8).count (b8 c) = (b.map b8).count (b8 c) + 1 := by
       rw [h2, List.map_append, List.count_append, hca, List.map_cons, List.count_cons]
       simp
     have hi : index (s.map b8) [b8 c] = a.length := by
       rw [index_one, h2]
       exact zik hc a b hba h1
     have hne : (index (s.map b8) [b8 c] == -1) = false := by rw [hi, beq_eq_false_iff_ne]; omega
     rw [hcnt]
     conv => rhs; rw [h2]
     rw [zd8 c a b h1, splitK, hne, hi]
     have e1 : (s.map b8).take (((a.length : Nat) : Int).toNat + 0) = a.map b8 := by
       rw [h2, List.map_append, Int.toNat_natCast, Nat.add_zero]
       exact List.take_left' (by simp)
     have e2 : (s.map b8).drop (((a.length : Nat) : Int).toNat + [b8 c].length) = b.map b8 := by
       rw [h2, List.map_append, List.map_cons, Int.toNat_natCast, List.length_singleton, List.drop_append, List.drop_eq_nil_of_le (by simp), List.nil_append]
       simp
     simp only [Bool.false_eq_true, if_false]
     rw [e1, e2, List.map_cons, zjk hba]
     match n, hn with
     | 0, hn => omega
     | n + 1, hn => rw [zo3 hc n b (by omega) hbb]
theorem zvf {c : Int} (hc : 0 ≤ c ∧ c < 256) {s : List Int} (hb : Bs s) : zcc c s = z1i c s := by
 rw [← zo3 hc s.length s (Nat.le_refl _) hb]
 unfold zcc
 have e0 : (ba s).data.toList = s.map b8 := zdh s
 have e1 : countB (ba s) ⟨#[c.toNat.toUInt8]⟩ = (s.map b8).count (b8 c) := by
   have : countB (ba s) ⟨#[c.toNat.toUInt8]⟩ = count (ba s).data.toList [b8 c] := rfl
   rw [this, count_one, e0]
 rw [e1, show (fun b : ByteArray => nums b.data.toList) = nums ∘ (fun b : ByteArray => b.data.toList) from rfl, ← List.map_map]
 congr 1
 have := splitB_data ⟨#[c.toNat.toUInt8]⟩ 0 ((s.map b8).count (b8 c)) (ba s)
 rw [e0] at this
 exact this
theorem zmg (c : Int) : ∀ (s : List Int), (z1i c s).length ≤ s.length + 1
 | [] => Nat.le_refl _
 | x :: l => by
   have := zmg c l
   rw [z1i]
   split
   · simp; omega
   · split <;> simp_all
     omega
def z2c (s : List Int) : List (List Int) × Int :=
 if 120 < s.length ∨ s.head? ≠ some 47 then ([], 20)
 else if s = [47] then ([], 0)
 else if 10 < (z1i 47 s.tail).length ∨ (z1i 47 s.tail).all partI = false then ([], 20)
 else (z1i 47 s.tail, 0)
theorem zuq {s : List Int} (hl : s.length ≤ 1000) : z6r s [47] = some (decide (s.head? = some 47)) := by
 unfold z6r z3s
 cases s with
 | nil => rfl
 | cons x l =>
   have hlen : (x :: l).length = l.length + 1 := rfl
   rw [z6e (by omega), z6e (by simp), leI_t (by simp; omega), cond_true, z6e (by simp), zid (by simp; omega)]
   have : subL (x :: l) 0 ((([47] : List Int).length : Nat) : Int) = [x] := by simp [subL]
   rw [this]
   simp only [cond_true, Option.bind_some, Option.some.injEq]
   rw [Bool.eq_iff_iff, decide_eq_true_eq, decide_eq_true_eq]
   simp
theorem zgl {s : List Int} (hb : Bs s) (hl : s.length ≤ 1000) : z7k s = some (z2c s) := by
 refine ok_is ?_
 unfold z7k z2c
 rw [zuq hl]
 repeat' first
   | (dsimp only [Int.toNat_natCast, List.length_nil])
   | with_reducible first | refine z1s ?_ | refine z1o ?_ | refine z0m ?_ | refine z1p ?_ | refine z0v ?_ | refine z2p ?_ | refine qs ?_ | refine qb ?_ | refine z2h ?_ | refine qw ?_ | refine z2i ?_ | refine z2j ?_ | refine qi ?_ | refine qg (h := ?_) | refine qx (h := ?_) | refine qy (h := ?_) | refine qa ?_ | refine qc ?_ | refine ql ?_ | refine qp ?_ | refine z1g ?_ | rfl
   | (with_reducible first | refine ok_lt ?_ ?_ | refine ok_le ?_ ?_ | refine z2g ?_ ?_ | refine z2l ?_ ?_ | refine z2k ?_ ?_ | refine qu ?_ ?_ | refine ok_if ?_ ?_) <;> intro _ <;> try (exfalso; omega)
 · rw [if_pos (.inl (by omega))]
 · rename_i h0 h1 h2
   have h1 := of_decide_eq_true h1
   rw [if_neg (by rintro (h | h); omega; exact h h1), if_pos h2]
 · rename_i h0 h1 h2 _
   have h1 := of_decide_eq_true h1
   rw [if_neg (by rintro (h | h); omega; exact h h1), if_neg h2]
   have htl : subL s 1 (s.length : Int) = s.tail := by
     simp [subL, List.take_of_length_le]
   have hbt : Bs s.tail := fun x hx => hb x (List.mem_of_mem_tail hx)
   have hS : zam (subL s 1 (s.length : Int)) [47] = some (z1i 47 s.tail) := by
     rw [htl]
     unfold zam
     dsimp only
     rw [ble_t (by rw [List.length_tail]; omega), zvf (by decide) hbt]; rfl
   rw [hS]
   have hpl : ∀ p, p ∈ z1i 47 s.tail → Bs p ∧ p.length ≤ s.tail.length := zo2 47 _ _ (Nat.le_refl _) hbt
   have hlen := zmg 47 s.tail
   have hlt : s.tail.length ≤ 1000 := by rw [List.length_tail]; omega
   generalize z1i 47 s.tail = l at *
   repeat' first
     | (dsimp only [Int.toNat_natCast, List.length_nil])
     | with_reducible first | refine z1s ?_ | refine z1o ?_ | refine z0m ?_ | refine z1p ?_ | refine z0v ?_ | refine z2p ?_ | refine qs ?_ | refine qb ?_ | refine z2h ?_ | refine qw ?_ | refine z2i ?_ | refine z2j ?_ | refine qi ?_ | refine qg (h := ?_) | refine qx (h := ?_) | refine qy (h := ?_) | refine qa ?_ | refine qc ?_ | refine ql ?_ | refine qp ?_ | refine z1g ?_ | rfl
     | (with_reducible first | refine ok_lt ?_ ?_ | refine ok_le ?_ ?_ | refine z2g ?_ ?_ | refine z2l ?_ ?_ | refine z2k ?_ ?_ | refine qu ?_ ?_ | refine ok_if ?_ ?_) <;> intro _ <;> try (exfalso; omega)
   · rw [if_pos (.inl (by omega))]
   · rename_i h4
     have hloop : loopC z0k (l, l, (l.length : Int), 0) = some (if (l.any fun x => !partI x) = true then .inr ([], 20) else .inl l) := by
       refine znr _ l (fun i => (l, l, (l.length : Int), (i : Int))) (fun x => !partI x) _ _ ?_ fun i hi => ?_
       · unfold z0k z4c
         dsimp only
         rw [ltI_f (by omega)]; rfl
       · unfold z0k z4c
         dsimp only
         obtain ⟨b1, b2⟩ := hpl l[i] (List.getElem_mem hi)
         rw [ltI_t (by omega), cond_true, zck hi]
         simp only [Option.bind_some]
         rw [zyq b1 (by omega)]
         simp only [Option.bind_some]
         rw [z9b (by omega)]
         cases partI l[i] <;> rfl
     rw [hloop]
     have hany : (l.any fun x => !partI x) = !(l.all partI) := by rw [List.not_all_eq_any_not]
     rw [hany]
     cases hall : l.all partI with
     | true =>
       refine z0m (z0m ?_)
       rw [if_neg (by simp; omega)]
     | false =>
       refine z0m (z0m ?_)
       rw [if_pos (Or.inr rfl)]
 · rename_i h0 h1 h2 h3
   exfalso
   have h1 := of_decide_eq_true h1
   have hpos : 1 ≤ s.length := by
     cases s with
     | nil => simp at h1
     | cons x l => simp
   rw [zid (by omega)] at h3
   cases h3
 · rename_i h0 h1
   have h1 := of_decide_eq_false h1
   rw [if_pos (.inr h1)]
theorem zjf {s : List Int} {a b : Nat} : subL s (a : Int) (b : Int) = (s.drop a).take (b - a) := by simp [subL]
theorem zjo {s : List Int} {l : List (List Int)} (h0 : s.head? = some 47) (h1 : s ≠ [47]) (hl : ¬ 120 < s.length) (h2 : z1i 47 s.tail = l) (h3 : 10 < l.length ∨ l.all partI = false) : z2c s = ([], 20) := by
 unfold z2c
 rw [if_neg (by rintro (h | h); exact hl h; exact h h0), if_neg h1, h2, if_pos h3]
theorem zjx {s : List Int} (hb : Bs s) (hl : s.length ≤ 1000) : z9v s = some (z2c s) := by
 refine ok_is ?_
 unfold z9v
 repeat' first
   | (dsimp only [Int.toNat_natCast, List.length_nil])
   | with_reducible first | refine z1s ?_ | refine z1o ?_ | refine z0m ?_ | refine z1p ?_ | refine z0v ?_ | refine z2p ?_ | refine qs ?_ | refine qb ?_ | refine z2h ?_ | refine qw ?_ | refine z2i ?_ | refine z2j ?_ | refine qi ?_ | refine qg (h := ?_) | refine qx (h := ?_) | refine qy (h := ?_) | refine qa ?_ | refine qc ?_ | refine ql ?_ | refine qp ?_ | refine z1g ?_ | rfl
   | (with_reducible first | refine ok_lt ?_ ?_ | refine ok_le ?_ ?_ | refine z2g ?_ ?_ | refine z2l ?_ ?_ | refine z2k ?_ ?_ | refine qu ?_ ?_ | refine ok_if ?_ ?_) <;> intro _ <;> try (exfalso; omega)
 · rename_i h; subst h; rfl
 · rename_i h1 h2; subst h2; rfl
 · rename_i h1 h2 h3
   unfold z2c
   rw [if_pos (.inl (by omega))]
 · rename_i h1 h2 h3
   have hpos : 0 < s.length := by
     cases s with
     | nil => exact absurd rfl h2
     | cons x l => simp
   refine zzk (show idxI s 0 = some s[0] from zck (i := 0) hpos) ?_
   have hhd : s.head? = some s[0] := by
     cases s with
     | nil => exact absurd rfl h2
     | cons x l => rfl
   repeat' first
     | (dsimp only [Int.toNat_natCast, List.length_nil])
     | with_reducible first | refine z1s ?_ | refine z1o ?_ | refine z0m ?_ | refine z1p ?_ | refine z0v ?_ | refine z2p ?_ | refine qs ?_ | refine qb ?_ | refine z2h ?_ | refine qw ?_ | refine z2i ?_ | refine z2j ?_ | refine qi ?_ | refine qg (h := ?_) | refine qx (h := ?_) | refine qy (h := ?_) | refine qa ?_ | refine qc ?_ | refine ql ?_ | refine qp ?_ | refine z1g ?_ | rfl
     | (with_reducible first | refine ok_lt ?_ ?_ | refine ok_le ?_ ?_ | refine z2g ?_ ?_ | refine z2l ?_ ?_ | refine z2k ?_ ?_ | refine qu ?_ ?_ | refine ok_if ?_ ?_) <;> intro _ <;> try (exfalso; omega)
   · rename_i h4
     rw [h4] at hhd
     have htl : s.tail = s.drop 1 := by simp
     have hslen : s.length ≤ 120 := by omega
     refine zlv s.length (fun k (a : Nat × List (List Int)) => (s, (a.1 : Int), ((k + 1 : Nat) : Int), a.2))
       (fun k a => a.2.all partI = true ∧ a.2.length ≤ 10 ∧ ((k + 1 ≤ s.length ∧ z1i 47 s.tail = a.2 ++ z1i 47 (s.drop a.1) ∧ a.1 ≤ k + 1 ∧ 1 ≤ a.1 ∧ ∀ x, x ∈ (s.drop a.1).take (k + 1 - a.1) → x ≠ 47) ∨ (k = s.length ∧ a.2 = z1i 47 s.tail)))
       (1, []) rfl ⟨rfl, Nat.zero_le _, .inl ⟨by omega, by rw [htl]; rfl, by omega, Nat.le_refl _, by simp⟩⟩ (fun a hI => ?_) fun k a hk hI => ?_
     · obtain ⟨f, out⟩ := a
       obtain ⟨g1, g2, g3⟩ := hI
       dsimp only at g1 g2 g3
       have g4 : out = z1i 47 s.tail := by
         rcases g3 with ⟨h, _⟩ | ⟨_, h⟩
         · omega
         · exact h
       unfold z0n z3x
       dsimp only
       repeat' first
         | (dsimp only [Int.toNat_natCast, List.length_nil])
         | with_reducible first | refine z1s ?_ | refine z1o ?_ | refine z0m ?_ | refine z1p ?_ | refine z0v ?_ | refine z2p ?_ | refine qs ?_ | refine qb ?_ | refine z2h ?_ | refine qw ?_ | refine z2i ?_ | refine z2j ?_ | refine qi ?_ | refine qg (h := ?_) | refine qx (h := ?_) | refine qy (h := ?_) | refine qa ?_ | refine qc ?_ | refine ql ?_ | refine qp ?_ | refine z1g ?_ | rfl
         | (with_reducible first | refine ok_lt ?_ ?_ | refine ok_le ?_ ?_ | refine z2g ?_ ?_ | refine z2l ?_ ?_ | refine z2k ?_ ?_ | refine qu ?_ ?_ | refine ok_if ?_ ?_) <;> intro _ <;> try (exfalso; omega)
       unfold z2c
       rw [if_neg (by rintro (h | h); omega; exact h hhd), if_neg h1, ← g4, if_neg (by rw [g1]; simp; omega)]
     · obtain ⟨f, out⟩ := a
       obtain ⟨g1, g2, g3⟩ := hI
       dsimp only at g1 g2 g3 ⊢
       have g3 : k + 1 ≤ s.length ∧ z1i 47 s.tail = out ++ z1i 47 (s.drop f) ∧ f ≤ k + 1 ∧ 1 ≤ f ∧ ∀ x, x ∈ (s.drop f).take (k + 1 - f) → x ≠ 47 := by
         rcases g3 with h | ⟨h, _⟩
         · exact h
         · omega
       obtain ⟨h5, h6, h7, h8, h9⟩ := g3
       unfold z0n z3x
       dsimp only
       repeat' first
         | (dsimp only [Int.toNat_natCast, List.length_nil])
         | with_reducible first | refine z1s ?_ | refine z1o ?_ | refine z0m ?_ | refine z1p ?_ | refine z0v ?_ | refine z2p ?_ | refine qs ?_ | refine qb ?_ | refine z2h ?_ | refine qw ?_ | refine z2i ?_ | refine z2j ?_ | refine qi ?_ | refine qg (h := ?_) | refine qx (h := ?_) | refine qy (h := ?_) | refine qa ?_ | refine qc ?_ | refine ql ?_ | refine qp ?_ | refine z1g ?_ | rfl
         | (with_reducible first | refine ok_lt ?_ ?_ | refine ok_le ?_ ?_ | refine z2g ?_ ?_ | refine z2l ?_ ?_ | refine z2k ?_ ?_ | refine qu ?_ ?_ | refine ok_if ?_ ?_) <;> intro _ <;> try (exfalso; omega)
       · have hp : Bs (subL s (f : Int) ((k + 1 : Nat) : Int)) ∧ (subL s (f : Int) ((k + 1 : Nat) : Int)).length ≤ 1000 := by
           rw [zjf]
           exact ⟨fun x hx => hb x (List.mem_of_mem_drop (List.mem_of_mem_take hx)), by rw [List.length_take, List.length_drop]; omega⟩
         rename_i h10 h11 h12
         have hpc : z1i 47 (s.drop f) = subL s (f : Int) ((k + 1 : Nat) : Int) :: z1i 47 (s.drop (k + 2)) := by
           have hk : k + 1 < s.length := by omega
           have e : s.drop f = (s.drop f).take (k + 1 - f) ++ 47 :: s.drop (k + 2) := by
             conv => lhs; rw [← List.take_append_drop (k + 1 - f) (s.drop f)]
             rw [List.drop_drop, show f + (k + 1 - f) = k + 1 by omega, List.drop_eq_getElem_cons hk, h12]
           conv => lhs; rw [e]
           rw [zd8 47 _ _ h9, zjf]
         rw [zmx hp.1 hp.2]
         rw [hpc] at h6
         generalize subL s (f : Int) ((k + 1 : Nat) : Int) = p at *
         repeat' first
           | (dsimp only [Int.toNat_natCast, List.length_nil])
           | with_reducible first | refine z1s ?_ | refine z1o ?_ | refine z0m ?_ | refine z1p ?_ | refine z0v ?_ | refine z2p ?_ | refine qs ?_ | refine qb ?_ | refine z2h ?_ | refine qw ?_ | refine z2i ?_ | refine z2j ?_ | refine qi ?_ | refine qg (h := ?_) | refine qx (h := ?_) | refine qy (h := ?_) | refine qa ?_ | refine qc ?_ | refine ql ?_ | refine qp ?_ | refine z1g ?_ | rfl
           | (with_reducible first | refine ok_lt ?_ ?_ | refine ok_le ?_ ?_ | refine z2g ?_ ?_ | refine z2l ?_ ?_ | refine z2k ?_ ?_ | refine qu ?_ ?_ | refine ok_if ?_ ?_) <;> intro _ <;> try (exfalso; omega)
         · rename_i hpt h13
           exact (zjo hhd h1 (by omega) h6 (.inl (by simp; omega))).symm
         · rename_i hpt h13
           refine ⟨(k + 2, out ++ [p]), ?_, ?_, by simp; omega, .inl ⟨by omega, by rw [h6]; simp, by omega, by omega, by simp⟩⟩
           · rw [z9b (by omega)]
           · rw [List.all_append, g1, List.all_cons, hpt]; rfl
         · rename_i hpt
           refine (zjo hhd h1 (by omega) h6 (.inr ?_)).symm
           rw [List.all_append, List.all_cons, hpt]; simp
       · rename_i h10 h11 h12
         refine ⟨(f, out), by rw [z9b (by omega)], g1, g2, .inl ⟨by omega, h6, by omega, h8, fun x hx => ?_⟩⟩
         have hk : k + 1 < s.length := by omega
         have e : (s.drop f).take (k + 2 - f) = (s.drop f).take (k + 1 - f) ++ [s[k + 1]] := by
           have hi : k + 1 - f < (s.drop f).length := by rw [List.length_drop]; omega
           have : (s.drop f)[k + 1 - f] = s[k + 1] := by
             rw [List.getElem_drop]; congr 1; omega
           rw [show k + 2 - f = (k + 1 - f) + 1 by omega, List.take_succ_eq_append_getElem hi, this]
         rw [show k + 1 + 1 - f = k + 2 - f by omega, e, List.mem_append] at hx
         rcases hx with hx | hx
         · exact h9 x hx
         · simp at hx; subst hx; exact h12
       · rename_i h10 h11
         have hk : k + 1 = s.length := by omega
         have hp : Bs (subL s (f : Int) ((k + 1 : Nat) : Int)) ∧ (subL s (f : Int) ((k + 1 : Nat) : Int)).length ≤ 1000 := by
           rw [zjf]
           exact ⟨fun x hx => hb x (List.mem_of_mem_drop (List.mem_of_mem_take hx)), by rw [List.length_take, List.length_drop]; omega⟩
         have e : subL s (f : Int) ((k + 1 : Nat) : Int) = s.drop f := by
           rw [zjf]
           exact List.take_of_length_le (by rw [List.length_drop]; omega)
         have e2 : (s.drop f).take (k + 1 - f) = s.drop f := List.take_of_length_le (by rw [List.length_drop]; omega)
         rw [e2] at h9
         rw [zmx hp.1 hp.2]
         rw [zc3 47 _ h9, ← e] at h6
         generalize subL s (f : Int) ((k + 1 : Nat) : Int) = p at *
         repeat' first
           | (dsimp only [Int.toNat_natCast, List.length_nil])
           | with_reducible first | refine z1s ?_ | refine z1o ?_ | refine z0m ?_ | refine z1p ?_ | refine z0v ?_ | refine z2p ?_ | refine qs ?_ | refine qb ?_ | refine z2h ?_ | refine qw ?_ | refine z2i ?_ | refine z2j ?_ | refine qi ?_ | refine qg (h := ?_) | refine qx (h := ?_) | refine qy (h := ?_) | refine qa ?_ | refine qc ?_ | refine ql ?_ | refine qp ?_ | refine z1g ?_ | rfl
           | (with_reducible first | refine ok_lt ?_ ?_ | refine ok_le ?_ ?_ | refine z2g ?_ ?_ | refine z2l ?_ ?_ | refine z2k ?_ ?_ | refine qu ?_ ?_ | refine ok_if ?_ ?_) <;> intro _ <;> try (exfalso; omega)
         · rename_i hpt h13
           exact (zjo hhd h1 (by omega) h6 (.inl (by simp; omega))).symm
         · rename_i hpt h13
           refine ⟨(k + 2, out ++ [p]), ?_, ?_, by simp; omega, .inr ⟨by omega, by rw [h6]⟩⟩
           · rw [z9b (by omega)]
           · rw [List.all_append, g1, List.all_cons, hpt]; rfl
         · rename_i hpt
           refine (zjo hhd h1 (by omega) h6 (.inr ?_)).symm
           rw [List.all_append, List.all_cons, hpt]; simp
   · rename_i h4
     unfold z2c
     rw [if_pos (.inr (by rw [hhd]; simpa using h4))]
end Go.Proofs.YtgpmclpgcmgajaaDoor
set_option maxRecDepth 100000
set_option linter.unusedVariables false
set_option linter.unusedSimpArgs false
namespace Go.Proofs.YtgpmclpgcmgajaaDoor
open Go.Tm Go.Ab Go.Lib
def diff (a b : List (List Int)) (n : Nat) : Bool := (List.range n).any fun i => !decide (a[i]? = b[i]?)
theorem zli {a b : List (List Int)} {n : Nat} : diff a b n = false ↔ ∀ i, i < n → a[i]? = b[i]? := by
 unfold diff
 rw [List.any_eq_false]
 constructor
 · intro h i hi
   have := h i (List.mem_range.2 hi)
   simpa using this
 · intro h i hi
   simp [h i (List.mem_range.1 hi)]
theorem zdf {a b : List (List Int)} : b.isPrefixOf a = true ↔ b.length ≤ a.length ∧ ∀ i, i < b.length → a[i]? = b[i]? := by
 rw [List.isPrefixOf_iff_prefix]
 constructor
 · rintro ⟨t, rfl⟩
   exact ⟨by simp, fun i hi => by rw [List.getElem?_append_left hi]⟩
 · rintro ⟨h1, h2⟩
   refine ⟨a.drop b.length, ?_⟩
   conv => rhs; rw [← List.take_append_drop b.length a]
   congr 1
   apply List.ext_getElem?
   intro i
   rw [List.getElem?_take]
   split
   · rename_i hi; exact (h2 i hi).symm
   · rename_i hi; exact List.getElem?_eq_none (by omega)
theorem zjw {a b : List (List Int)} (hl : b.length ≤ a.length) : diff a b b.length = !b.isPrefixOf a := by
 cases hd : diff a b b.length with
 | false =>
   have := zdf.2 ⟨hl, zli.1 hd⟩
   rw [this]; rfl
 | true =>
   cases hp : b.isPrefixOf a with
   | false => rfl
   | true =>
     have := zli.2 (zdf.1 hp).2
     rw [this] at hd; cases hd
def z4b (s top : List Int) : Bool := decide ((z2c s).2 = 0) && decide ((z2c top).2 = 0) && (z2c top).1.isPrefixOf (z2c s).1
theorem zep (s : List Int) : (z2c s).1.length ≤ 10 := by
 unfold z2c
 split
 · exact Nat.zero_le _
 · split
   · exact Nat.zero_le _
   · split
     · exact Nat.zero_le _
     · rename_i h; simp only [not_or] at h; exact Nat.le_of_not_lt h.1
theorem zan {s top : List Int} (hs : Bs s) (ht : Bs top) (ls : s.length ≤ 1000) (lt : top.length ≤ 1000) : z1c s top = some (z4b s top) := by
 refine ok_is ?_
 unfold z1c z4b
 rw [zgl hs ls, zgl ht lt]
 have l1 := zep s
 have l2 := zep top
 generalize z2c s = A at *
 generalize z2c top = B at *
 repeat' first
   | (dsimp only [Int.toNat_natCast, List.length_nil])
   | with_reducible first | refine z1s ?_ | refine z1o ?_ | refine z0m ?_ | refine z1p ?_ | refine z0v ?_ | refine z2p ?_ | refine qs ?_ | refine qb ?_ | refine z2h ?_ | refine qw ?_ | refine z2i ?_ | refine z2j ?_ | refine qi ?_ | refine qg (h := ?_) | refine qx (h := ?_) | refine qy (h := ?_) | refine qa ?_ | refine qc ?_ | refine ql ?_ | refine qp ?_ | refine z1g ?_ | rfl
   | (with_reducible first | refine ok_lt ?_ ?_ | refine ok_le ?_ ?_ | refine z2g ?_ ?_ | refine z2l ?_ ?_ | refine z2k ?_ ?_ | refine qu ?_ ?_ | refine ok_if ?_ ?_) <;> intro _ <;> try (exfalso; omega)
 · rename_i h1 h2 h3
   rw [h1, h2]
   have : B.1.isPrefixOf A.1 = false := by
     cases hp : B.1.isPrefixOf A.1 with
     | false => rfl
     | true => have := (zdf.1 hp).1; omega
   rw [this]; rfl
 · rename_i h1 h2 h3
   rw [h1, h2]
   have hle : B.1.length ≤ A.1.length := by omega
   have hloop : loopC z0l (A.1, B.1, (B.1.length : Int), 0) = some (if diff A.1 B.1 B.1.length = true then .inr false else .inl ()) := by
     refine zld _ B.1.length (fun i => (A.1, B.1, (B.1.length : Int), (i : Int))) (fun i => !decide (A.1[i]? = B.1[i]?)) _ _ ?_ fun i hi => ?_
     · unfold z0l z4i
       dsimp only
       rw [ltI_f (by omega)]; rfl
     · unfold z0l z4i
       dsimp only
       rw [ltI_t (by omega), cond_true, zck hi, zck (show i < A.1.length by omega), z9b (by omega)]
       simp only [Option.bind_some]
       rw [getE hi, getE (show i < A.1.length by omega)]
       by_cases e : A.1[i] = B.1[i]
       · rw [eqS_t e, decide_eq_true (by rw [e])]; rfl
       · rw [eqS_f e, decide_eq_false (fun h => e (Option.some.inj h))]; rfl
   rw [hloop, zjw hle]
   cases B.1.isPrefixOf A.1 <;> exact z0m (z0m rfl)
 · rename_i h1 h2; rw [h1, decide_eq_false h2]; rfl
 · rename_i h; rw [decide_eq_false h]; rfl
def zij (l : List (List Int)) : Bool := decide (l.length ≤ 40) && l.all fun s => decide (s.length ≤ 200)
theorem zxm {l : List (List Int)} (h1 : l.length ≤ maxLen) (h2 : ∀ s, s ∈ l → s.length ≤ maxLen) : za2 l = some (zij l) := by
 unfold maxLen at h1 h2
 refine ok_is ?_
 unfold za2 zij
 repeat' first
   | (dsimp only [Int.toNat_natCast, List.length_nil])
   | with_reducible first | refine z1s ?_ | refine z1o ?_ | refine z0m ?_ | refine z1p ?_ | refine z0v ?_ | refine z2p ?_ | refine qs ?_ | refine qb ?_ | refine z2h ?_ | refine qw ?_ | refine z2i ?_ | refine z2j ?_ | refine qi ?_ | refine qg (h := ?_) | refine qx (h := ?_) | refine qy (h := ?_) | refine qa ?_ | refine qc ?_ | refine ql ?_ | refine qp ?_ | refine z1g ?_ | rfl
   | (with_reducible first | refine ok_lt ?_ ?_ | refine ok_le ?_ ?_ | refine z2g ?_ ?_ | refine z2l ?_ ?_ | refine z2k ?_ ?_ | refine qu ?_ ?_ | refine ok_if ?_ ?_) <;> intro _ <;> try (exfalso; omega)
 · rw [decide_eq_false (by omega)]; rfl
 · rw [decide_eq_true (by omega)]
   have hloop : loopC z0s (l, (l.length : Int), 0) = some (if (l.any fun s => !decide (s.length ≤ 200)) = true then .inr false else .inl ()) := by
     refine znr _ l (fun i => (l, (l.length : Int), (i : Int))) (fun s => !decide (s.length ≤ 200)) _ _ ?_ fun i hi => ?_
     · unfold z0s z5j
       dsimp only
       rw [ltI_f (by omega)]; rfl
     · unfold z0s z5j
       dsimp only
       have := h2 l[i] (List.getElem_mem hi)
       rw [ltI_t (by omega), cond_true, zck hi, z9b (by omega)]
       simp only [Option.bind_some]
       rw [z6e (by omega)]
       by_cases e : l[i].length ≤ 200
       · rw [ltI_f (by omega), decide_eq_true e]; rfl
       · rw [ltI_t (by omega), decide_eq_false e]; rfl
   have hany : (l.any fun s => !decide (s.length ≤ 200)) = !(l.all fun s => decide (s.length ≤ 200)) := by rw [List.not_all_eq_any_not]
   rw [hloop, hany]
   cases (l.all fun s => decide (s.length ≤ 200)) <;> exact z0m (z0m rfl)
end Go.Proofs.YtgpmclpgcmgajaaDoor