import Derived.Test.YtgpmclpgcmgajaaDoorTm21to25
import Derived.Test.YtgpmclpgcmgajaaDoorTm26to28
import Derived.Test.YtgpmclpgcmgajaaDoorPaW5toPaB
import Derived.Test.YtgpmclpgcmgajaaDoorProg
set_option maxRecDepth 100000
set_option linter.unusedVariables false
noncomputable section
namespace Go.Proofs.YtgpmclpgcmgajaaDoor
open Go.Tm Go.Ab
def c0 : U := (.st (.cons (.int .i64) (.one (.int .u32))))
def zai : Env := ⟨[], [], []⟩
theorem z9v : EnvsOK Tryd.prog zai := ⟨z2q _, z1w _, z1v _⟩
def z4o : Shp := ⟨1, 0, [(0, .d .bool)], []⟩
def z5d : XS := .one .ret z4o.xe
theorem z9o : z5d.OK := XS.one_ok (z0g z4o)
def z3u (t0 : List Int) (t1 : List Int) : Option ((Bool)) :=
 z0i (List.length t0) (
 z0i (List.length t1) (
 bif leI (List.length t1 : Nat) (List.length t0 : Nat) then
 z0i (List.length t1) (
 bif subOk 0 (List.length t1 : Nat) (List.length t0) then
 some (eqS (subL t0 0 (List.length t1 : Nat)) t1)
 else none)
 else
 some false))
def z5e : Sig := ⟨32, [.d .str, .d .str], [], 0, z5d⟩
def z4w (x : (List Int) × (List Int)) : Option ((Bool)) := z3u x.1 x.2
theorem za4 : FnOK Tryd.prog z5e z4w :=
 fn_ok z9v (h := .no) Tryd.func32 (z1m [] (by kernel_rfl) trivial) (by kernel_rfl) z9o (fun x => by kernel_rfl)
def zhr : Env := ⟨[(entQ z5e z4w)], [], []⟩
theorem zfk : EnvsOK Tryd.prog zhr := ⟨z0q (z1g za4) (z2q _), z1w _, z1v _⟩
def zao : Shp := ⟨1, 0, [(0, .d .bool)], []⟩
def zbp : XS := .one .ret zao.xe
theorem zf8 : zbp.OK := XS.one_ok (z0g zao)
def z6s (t0 : List Int) (t1 : List Int) : Option ((Bool)) :=
 (z3u t0 t1).bind fun r =>
 some r
def zbm : Sig := ⟨22, [.d .str, .d .str], [], 0, zbp⟩
def zb1 (x : (List Int) × (List Int)) : Option ((Bool)) := z6s x.1 x.2
theorem zgs : FnOK Tryd.prog zbm zb1 :=
 fn_ok zfk (h := .no) Tryd.func22 (z1m [] (by kernel_rfl) trivial) (by kernel_rfl) zf8 (fun x => by kernel_rfl)
def z4h : Ent := zkr 80
theorem z8e : EntOK Tryd.prog z4h := zrt Tryd.func80 (by kernel_rfl) (by kernel_rfl) (by kernel_rfl) (by kernel_rfl)
def zak : Env := ⟨[z4h], [], []⟩
theorem z9u : EnvsOK Tryd.prog zak := ⟨z0q z8e (z2q _), z1w _, z1v _⟩
def z4p : Shp := ⟨1, 0, [(0, .d (.int .i64))], []⟩
def z5b : XS := .one .ret z4p.xe
theorem z9m : z5b.OK := XS.one_ok (z0g z4p)
def z1z (t0 : List Int) (c : Int) : Option ((Int)) :=
 z0i (List.length t0) (
 some (zg8 t0 c))
def z5a : Sig := ⟨60, [.d .str, .d (.int .u8)], [], 0, z5b⟩
def z4t (x : (List Int) × Int) : Option ((Int)) := z1z x.1 x.2
theorem za2 : FnOK Tryd.prog z5a z4t :=
 fn_ok z9u (h := .no) Tryd.func60 (z1m [] (by kernel_rfl) trivial) (by kernel_rfl) z9m (fun x => by kernel_rfl)
def zbs : Env := ⟨[(entQ z5a z4t)], [], []⟩
theorem zbe : EnvsOK Tryd.prog zbs := ⟨z0q (z1g za2) (z2q _), z1w _, z1v _⟩
def z4e : Shp := ⟨143, 0, [(0, .d .str), (1, .d .str), (5, .d (.int .i64)), (16, .d .bool)], []⟩
def z2e : XS := .one .normal z4e.xe
theorem z8d : z2e.OK := XS.one_ok (z0g z4e)
def z5r : Shp := ⟨1, 0, [(0, .d (.int .i64))], []⟩
def z6x : XS := .one .ret z5r.xe
theorem zaw : z6x.OK := XS.one_ok (z0g z5r)
def z3f (t0 : List Int) (substr : List Int) : Option ((Int)) :=
 z0i (List.length substr) (
 (show Option (((List Int) × (List Int) × Int × Bool)) from
 bif eqI (List.length substr : Nat) 0 then
 some (t0, substr, (List.length substr : Nat), true)
 else
 some (t0, substr, (List.length substr : Nat), eqS substr t0)).bind fun j =>
 bif j.2.2.2 then
 some 0
 else
 bif eqI j.2.2.1 1 then
 (idxI j.2.1 0).bind fun x =>
 (z1z j.1 x).bind fun r =>
 some r
 else
 z0i (List.length j.1) (
 bif leI (List.length j.1 : Nat) j.2.2.1 then
 some (-1)
 else
 none))
def z6v : Sig := ⟨46, [.d .str, .d .str], [], 0, z6x⟩
def z6q (x : (List Int) × (List Int)) : Option ((Int)) := z3f x.1 x.2
theorem zbl : FnOK Tryd.prog z6v z6q :=
 fn_ok zbe (h := (.two .no (.two .no (.two (.join (fun _ => z2e) .no .no) .no)))) Tryd.func46 (z1m [.xs (fun _ => z2e)] (by kernel_rfl) ⟨(zjl z8d), trivial⟩) (by kernel_rfl) zaw (fun x => by kernel_rfl)
def zct : Env := ⟨[(entQ z6v z6q)], [], []⟩
theorem zc0 : EnvsOK Tryd.prog zct := ⟨z0q (z1g zbl) (z2q _), z1w _, z1v _⟩
def z7e : Shp := ⟨1, 0, [(0, .tu [.d .str, .d .str, .d .bool])], []⟩
def z8b : XS := .one .ret z7e.xe
theorem zbj : z8b.OK := XS.one_ok (z0g z7e)
def z3x (t0 : List Int) (sep : List Int) : Option (((List Int) × (List Int) × Bool)) :=
 (z3f t0 sep).bind fun r =>
 bif leI 0 r then
 bif subOk 0 r (List.length t0) then
 z0i (List.length sep) (
 bif subOk (W64 (r + (List.length sep : Nat))) (List.length t0 : Nat) (List.length t0) then
 some ((subL t0 0 r, subL t0 (W64 (r + (List.length sep : Nat))) (List.length t0 : Nat), true))
 else none)
 else none
 else
 some (t0, ([] : List Int), false)
def z7v : Sig := ⟨34, [.d .str, .d .str], [], 0, z8b⟩
def z7l (x : (List Int) × (List Int)) : Option (((List Int) × (List Int) × Bool)) := z3x x.1 x.2
theorem zco : FnOK Tryd.prog z7v z7l :=
 fn_ok zc0 (h := .no) Tryd.func34 (z1m [] (by kernel_rfl) trivial) (by kernel_rfl) zbj (fun x => by kernel_rfl)
def zoz : Env := ⟨[(entQ z7v z7l)], [], []⟩
theorem zml : EnvsOK Tryd.prog zoz := ⟨z0q (z1g zco) (z2q _), z1w _, z1v _⟩
def zf1 : Shp := ⟨1, 0, [(0, .tu [.d .str, .d .str, .d .bool])], []⟩
def zhl : XS := .one .ret zf1.xe
theorem zkp : zhl.OK := XS.one_ok (z0g zf1)
def z9y (t0 : List Int) (sep : List Int) : Option (((List Int) × (List Int) × Bool)) :=
 (z3x t0 sep).bind fun r =>
 some (r.1, r.2.1, r.2.2)
def zhe : Sig := ⟨24, [.d .str, .d .str], [], 0, zhl⟩
def zfm (x : (List Int) × (List Int)) : Option (((List Int) × (List Int) × Bool)) := z9y x.1 x.2
theorem zn7 : FnOK Tryd.prog zhe zfm :=
 fn_ok zml (h := .no) Tryd.func24 (z1m [] (by kernel_rfl) trivial) (by kernel_rfl) zkp (fun x => by kernel_rfl)
def zrz : Env := ⟨[(entQ zhe zfm), (entQ zmh zkh), (entQ zim zhm)], [], []⟩
theorem zou : EnvsOK Tryd.prog zrz := ⟨z0q (z1g zn7) (z0q (z1g zrp) (z0q (z1g zov) (z2q _))), z1w _, z1v _⟩
def zha : Shp := ⟨1, 0, [(0, .d .bool)], []⟩
def zk2 : XS := .one .ret zha.xe
theorem zmw : zk2.OK := XS.one_ok (z0g zha)
def zev (t0 : List Int) : Option ((Bool)) :=
 bif eqS t0 ([108, 111, 115, 116, 43, 102, 111, 117, 110, 100] : List Int) then
 some true
 else
 (z9y t0 ([126] : List Int)).bind fun r =>
 (zh6 r.1).bind fun r2 =>
 bif !r2 then
 some false
 else
 (z9y r.2.1 ([46] : List Int)).bind fun r3 =>
 bif !r.2.2 then
 some true
 else
 bif r3.2.2 then
 (zbd r3.1).bind fun r4 =>
 bif r4 then
 (zbd r3.2.1).bind fun r5 =>
 some r5
 else
 some false
 else
 some false
def zjw : Sig := ⟨13, [.d .str], [], 0, zk2⟩
def zj7 (x : (List Int)) : Option ((Bool)) := zev x
theorem zr0 : FnOK Tryd.prog zjw zj7 :=
 fn_ok zou (h := .no) Tryd.func13 (z1m [] (by kernel_rfl) trivial) (by kernel_rfl) zmw (fun x => by kernel_rfl)
def zqv : Env := ⟨[(entQ zbm zb1), (entQ zkj zjb), (entQ zjw zj7)], [], []⟩
theorem zfp : EnvsOK Tryd.prog zqv := ⟨z0q (z1g zgs) (z0q (z1g zqc) (z0q (z1g zr0) (z2q _))), z1w _, z1v _⟩
def z5q : Shp := ⟨34, 0, [(4, .d (.sl .str))], []⟩
def z5u : Shp := ⟨34, 0, [(2, .d (.sl .str)), (3, .d (.int .i64))], []⟩
def z1l : XS := .or (.exit 0) z5q.xe (.one .ret z5u.xe)
theorem zav : z1l.OK := XS.or_ok (z0g z5q) (XS.one_ok (z0g z5u))
def z1j : Shp := ⟨34, 0, [(4, .d (.sl .str)), (23, .d (.sl .str)), (24, .d (.int .i64)), (25, .d (.int .i64))], []⟩
abbrev z4d := (List (List Int)) × (List (List Int)) × Int × Int
abbrev z7f := ((List (List Int))) ⊕ ((List (List Int)) × Int)
def z4b (l : List (List Int)) (t23 : List (List Int)) (t24 : Int) (t25 : Int) : Option (z4d ⊕ z7f) :=
 bif ltI t25 t24 then
 (idxI t23 t25).bind fun x =>
 (zev x).bind fun r =>
 bif !r then
 some (.inr (.inr ([], 20)))
 else
 some (.inl (l, t23, t24, W64 (t25 + 1)))
 else
 some (.inr (.inl l))
def z0m (s : z4d) : Option (z4d ⊕ z7f) := z4b s.1 s.2.1 s.2.2.1 s.2.2.2
theorem zb9 : SoundD Tryd.prog (.loop (subC (bodyC Tryd.f10) [1, 1, 1, 1, 1, 0, 1, 0, 0])) (loopD z1j.xe z1l (loopC z0m)) :=
 z4r (S := z1j.xe) (X := z1l) zfp (h := .no) (z1m [] (by kernel_rfl) trivial) (z0g z1j) zav z0m (fun s => by kernel_rfl)
def zfi : Shp := ⟨1, 0, [(0, .tu [.d (.sl .str), .d (.int .i64)])], []⟩
def zie : XS := .one .ret zfi.xe
theorem zle : zie.OK := XS.one_ok (z0g zfi)
def z3s (t0 : List Int) : Option (((List (List Int)) × Int)) :=
 z0i (List.length t0) (
 bif ltI 120 (List.length t0 : Nat) then
 some ([], 20)
 else
 (z6s t0 ([47] : List Int)).bind fun r =>
 bif !r then
 some ([], 20)
 else
 bif eqS t0 ([47] : List Int) then
 some ([], 0)
 else
 bif subOk 1 (List.length t0 : Nat) (List.length t0) then
 (zat (subL t0 1 (List.length t0 : Nat)) ([47] : List Int)).bind fun r2 =>
 z0i (List.length r2) (
 bif ltI 10 (List.length r2 : Nat) then
 some ([], 20)
 else
 z0i (List.length r2) (
 (loopC z0m (r2, r2, (List.length r2 : Nat), 0)).bind fun o =>
 Sum.elim (fun y =>
 some (y, 0)) (fun y2 =>
 some (y2.1, y2.2)) o))
 else none)
def zb6 : Sig := ⟨10, [.d .str], [], 0, zie⟩
def zae (x : (List Int)) : Option (((List (List Int)) × Int)) := z3s x
theorem zcr : FnOK Tryd.prog zb6 zae :=
 fn_ok zfp (h := (.two .no (.two .no (.two .no (.two .no (.two .no (.two (.two .no (.over (loopD z1j.xe z1l (loopC z0m)))) .no))))))) Tryd.func10 (z1m [.den (.loop (subC (bodyC Tryd.f10) [1, 1, 1, 1, 1, 0, 1, 0, 0])) (loopD z1j.xe z1l (loopC z0m))] (by kernel_rfl) ⟨zb9, trivial⟩) (by kernel_rfl) zle (fun x => by kernel_rfl)
def zs3 : Env := ⟨[(entQ zmu zjy)], [], []⟩
theorem zot : EnvsOK Tryd.prog zs3 := ⟨z0q (z1g zr9) (z2q _), z1w _, z1v _⟩
def zhq : Shp := ⟨1, 0, [(0, .d .str)], []⟩
def zk7 : XS := .one .ret zhq.xe
theorem zn0 : zk7.OK := XS.one_ok (z0g zhq)
def zar (l : List (List Int)) : Option (((List Int))) :=
 (zlb l ([47] : List Int)).bind fun r =>
 catG ([47] : List Int) r fun _ =>
 some (([47] : List Int) ++ r)
def zf6 : Sig := ⟨15, [.d (.sl .str)], [], 0, zk7⟩
def ze2 (x : (List (List Int))) : Option (((List Int))) := zar x
theorem zio : FnOK Tryd.prog zf6 ze2 :=
 fn_ok zot (h := .no) Tryd.func15 (z1m [] (by kernel_rfl) trivial) (by kernel_rfl) zn0 (fun x => by kernel_rfl)
def zp1 : Env := ⟨[(entQ zb6 zae)], [], []⟩
theorem zen : EnvsOK Tryd.prog zp1 := ⟨z0q (z1g zcr) (z2q _), z1w _, z1v _⟩
def z6r : Shp := ⟨48, 0, [], []⟩
def z6p : Shp := ⟨48, 0, [(4, .d .bool)], []⟩
def z1q : XS := .or (.exit 0) z6r.xe (.one .ret z6p.xe)
theorem zba : z1q.OK := XS.or_ok (z0g z6r) (XS.one_ok (z0g z6p))
def z1p : Shp := ⟨48, 0, [(5, .d (.sl .str)), (34, .d (.sl .str)), (35, .d (.int .i64)), (36, .d (.int .i64))], []⟩
abbrev z4k := (List (List Int)) × (List (List Int)) × Int × Int
abbrev z7i := (Unit) ⊕ (Bool)
def z4f (a : List (List Int)) (t34 : List (List Int)) (t35 : Int) (t36 : Int) : Option (z4k ⊕ z7i) :=
 bif ltI t36 t35 then
 (idxI t34 t36).bind fun x =>
 (idxI a t36).bind fun x2 =>
 bif !(eqS x2 x) then
 some (.inr (.inr false))
 else
 some (.inl (a, t34, t35, W64 (t36 + 1)))
 else
 some (.inr (.inl ()))
def z0n (s : z4k) : Option (z4k ⊕ z7i) := z4f s.1 s.2.1 s.2.2.1 s.2.2.2
theorem zbk : SoundD Tryd.prog (.loop (subC (bodyC Tryd.f17) [1, 1, 1, 1, 0, 1, 0, 0])) (loopD z1p.xe z1q (loopC z0n)) :=
 z4r (S := z1p.xe) (X := z1q) zen (h := .no) (z1m [] (by kernel_rfl) trivial) (z0g z1p) zba z0n (fun s => by kernel_rfl)
def zew : Shp := ⟨1, 0, [(0, .d .bool)], []⟩
def zhf : XS := .one .ret zew.xe
theorem zl2 : zhf.OK := XS.one_ok (z0g zew)
def zc8 (t0 : List Int) (top : List Int) : Option ((Bool)) :=
 (z3s t0).bind fun r =>
 (z3s top).bind fun r2 =>
 bif neI r.2 0 then
 some false
 else
 bif neI r2.2 0 then
 some false
 else
 z0i (List.length r.1) (
 z0i (List.length r2.1) (
 bif ltI (List.length r.1 : Nat) (List.length r2.1 : Nat) then
 some false
 else
 z0i (List.length r2.1) (
 (loopC z0n (r.1, r2.1, (List.length r2.1 : Nat), 0)).bind fun o =>
 Sum.elim (fun y =>
 some true) (fun y2 =>
 some y2) o)))
def zhc : Sig := ⟨17, [.d .str, .d .str], [], 0, zhf⟩
def zg4 (x : (List Int) × (List Int)) : Option ((Bool)) := zc8 x.1 x.2
theorem zmy : FnOK Tryd.prog zhc zg4 :=
 fn_ok zen (h := (.two .no (.two .no (.two .no (.two .no (.two (.two .no (.over (loopD z1p.xe z1q (loopC z0n)))) .no)))))) Tryd.func17 (z1m [.den (.loop (subC (bodyC Tryd.f17) [1, 1, 1, 1, 0, 1, 0, 0])) (loopD z1p.xe z1q (loopC z0n))] (by kernel_rfl) ⟨zbk, trivial⟩) (by kernel_rfl) zl2 (fun x => by kernel_rfl)
def zos : Env := ⟨[(entQ zb6 zae), (entQ zf6 ze2), (entQ zhc zg4)], [], []⟩
theorem zlq : EnvsOK Tryd.prog zos := ⟨z0q (z1g zcr) (z0q (z1g zio) (z0q (z1g zmy) (z2q _))), z1w _, z1v _⟩
def zeo : Shp := ⟨1, 0, [(0, .d .bool)], []⟩
def zhj : XS := .one .ret zeo.xe
theorem zkv : zhj.OK := XS.one_ok (z0g zeo)
def z8c  : Option ((Bool)) :=
 (z3s ([47, 97, 47, 98, 126, 49, 46, 50, 48] : List Int)).bind fun r =>
 bif eqI r.2 0 then
 z0i (List.length r.1) (
 bif eqI (List.length r.1 : Nat) 2 then
 (idxI r.1 1).bind fun x =>
 bif eqS x ([98, 126, 49, 46, 50, 48] : List Int) then
 (zar r.1).bind fun r2 =>
 bif bif eqS r2 ([47, 97, 47, 98, 126, 49, 46, 50, 48] : List Int) then true else false then
 (zc8 ([47, 97, 47, 98] : List Int) ([47, 97] : List Int)).bind fun r3 =>
 some r3
 else
 some false
 else
 some false
 else
 some false)
 else
 some false
def zhg : Sig := ⟨8, [], [], 0, zhj⟩
def zg6 (x : Unit) : Option ((Bool)) := z8c 
theorem zn4 : FnOK Tryd.prog zhg zg6 :=
 fn_ok zlq (h := .no) Tryd.func8 (z1m [] (by kernel_rfl) trivial) (by kernel_rfl) zkv (fun x => by kernel_rfl)
def zoy : Env := ⟨[], [], []⟩
theorem zez : EnvsOK Tryd.prog zoy := ⟨z2q _, z1w _, z1v _⟩
def z8g : Shp := ⟨18, 0, [], []⟩
def z8h : Shp := ⟨18, 0, [(2, .d .bool)], []⟩
def z2k : XS := .or (.exit 0) z8g.xe (.one .ret z8h.xe)
theorem zcp : z2k.OK := XS.or_ok (z0g z8g) (XS.one_ok (z0g z8h))
def z2j : Shp := ⟨18, 0, [(8, .d (.sl .str)), (9, .d (.int .i64)), (10, .d (.int .i64))], []⟩
abbrev z5i := (List (List Int)) × Int × Int
abbrev z9s := (Unit) ⊕ (Bool)
def z5h (t8 : List (List Int)) (t9 : Int) (t10 : Int) : Option (z5i ⊕ z9s) :=
 bif ltI t10 t9 then
 (idxI t8 t10).bind fun x =>
 z0i (List.length x) (
 bif ltI 200 (List.length x : Nat) then
 some (.inr (.inr false))
 else
 some (.inl (t8, t9, W64 (t10 + 1))))
 else
 some (.inr (.inl ()))
def z0r (s : z5i) : Option (z5i ⊕ z9s) := z5h s.1 s.2.1 s.2.2
theorem zde : SoundD Tryd.prog (.loop (subC (bodyC Tryd.f9) [1, 1, 0, 1, 0, 0])) (loopD z2j.xe z2k (loopC z0r)) :=
 z4r (S := z2j.xe) (X := z2k) zez (h := .no) (z1m [] (by kernel_rfl) trivial) (z0g z2j) zcp z0r (fun s => by kernel_rfl)
def zet : Shp := ⟨1, 0, [(0, .d .bool)], []⟩
def zho : XS := .one .ret zet.xe
theorem zl4 : zho.OK := XS.one_ok (z0g zet)
def z9w (l : List (List Int)) : Option ((Bool)) :=
 z0i (List.length l) (
 bif ltI 40 (List.length l : Nat) then
 some false
 else
 z0i (List.length l) (
 (loopC z0r (l, (List.length l : Nat), 0)).bind fun o =>
 Sum.elim (fun y =>
 some true) (fun y2 =>
 some y2) o))
def zhn : Sig := ⟨9, [.d (.sl .str)], [], 0, zho⟩
def zg3 (x : (List (List Int))) : Option ((Bool)) := z9w x
theorem zni : FnOK Tryd.prog zhn zg3 :=
 fn_ok zez (h := (.two .no (.two .no (.two (.two .no (.over (loopD z2j.xe z2k (loopC z0r)))) .no)))) Tryd.func9 (z1m [.den (.loop (subC (bodyC Tryd.f9) [1, 1, 0, 1, 0, 0])) (loopD z2j.xe z2k (loopC z0r))] (by kernel_rfl) ⟨zde, trivial⟩) (by kernel_rfl) zl4 (fun x => by kernel_rfl)
def zpg : Env := ⟨[], [], []⟩
theorem zfv : EnvsOK Tryd.prog zpg := ⟨z2q _, z1w _, z1v _⟩
def z4u : Shp := ⟨72, 0, [(0, .d .str), (3, .d (.int .i64)), (4, .d (.int .u8)), (5, .d .bool), (6, .d .bool), (7, .d .bool)], []⟩
def z3q : XS := .one .normal z4u.xe
theorem z9t : z3q.OK := XS.one_ok (z0g z4u)
def z9a : Shp := ⟨72, 0, [], []⟩
def z8u : Shp := ⟨72, 0, [(2, .d .bool)], []⟩
def z3a : XS := .or (.exit 0) z9a.xe (.one .ret z8u.xe)
theorem zdb : z3a.OK := XS.or_ok (z0g z9a) (XS.one_ok (z0g z8u))
def z2v : Shp := ⟨72, 0, [(0, .d .str), (3, .d (.int .i64))], []⟩
abbrev z6o := (List Int) × Int
abbrev za7 := (Unit) ⊕ (Bool)
def z6n (t0 : List Int) (i : Int) : Option (z6o ⊕ za7) :=
 z0i (List.length t0) (
 bif ltI i (List.length t0 : Nat) then
 (idxI t0 i).bind fun x =>
 (show Option (((List Int) × Int × Int × Bool × Bool × Bool)) from
 bif leI 97 x then
 bif leI 65 x then
 bif leI 48 x then
 some (t0, i, x, leI x 122, leI x 90, leI x 57)
 else
 some (t0, i, x, leI x 122, leI x 90, false)
 else
 bif leI 48 x then
 some (t0, i, x, leI x 122, false, leI x 57)
 else
 some (t0, i, x, leI x 122, false, false)
 else
 bif leI 65 x then
 bif leI 48 x then
 some (t0, i, x, false, leI x 90, leI x 57)
 else
 some (t0, i, x, false, leI x 90, false)
 else
 bif leI 48 x then
 some (t0, i, x, false, false, leI x 57)
 else
 some (t0, i, x, false, false, false)).bind fun j =>
 bif !j.2.2.2.1 then
 bif !j.2.2.2.2.1 then
 bif !j.2.2.2.2.2 then
 bif neI j.2.2.1 46 then
 bif neI j.2.2.1 95 then
 bif neI j.2.2.1 45 then
 some (.inr (.inr false))
 else
 some (.inl (j.1, W64 (j.2.1 + 1)))
 else
 some (.inl (j.1, W64 (j.2.1 + 1)))
 else
 some (.inl (j.1, W64 (j.2.1 + 1)))
 else
 some (.inl (j.1, W64 (j.2.1 + 1)))
 else
 some (.inl (j.1, W64 (j.2.1 + 1)))
 else
 some (.inl (j.1, W64 (j.2.1 + 1)))
 else
 some (.inr (.inl ())))
def z1c (s : z6o) : Option (z6o ⊕ za7) := z6n s.1 s.2
theorem zec : SoundD Tryd.prog (.loop (subC (bodyC Tryd.f21) [1, 1, 0, 1, 0, 0])) (loopD z2v.xe z3a (loopC z1c)) :=
 z4r (S := z2v.xe) (X := z3a) zfv (h := (.two .no (.two (.two .no (.join (fun _ => z3q) .no .no)) .no))) (z1m [.xs (fun _ => z3q)] (by kernel_rfl) ⟨(zjl z9t), trivial⟩) (z0g z2v) zdb z1c (fun s => by kernel_rfl)
def zfr : Shp := ⟨1, 0, [(0, .d .bool)], []⟩
def zi4 : XS := .one .ret zfr.xe
theorem zlv : zi4.OK := XS.one_ok (z0g zfr)
def zb7 (t0 : List Int) : Option ((Bool)) :=
 bif eqS t0 ([] : List Int) then
 some false
 else
 z0i (List.length t0) (
 bif ltI 12 (List.length t0 : Nat) then
 some false
 else
 bif eqS t0 ([46] : List Int) then
 some false
 else
 bif eqS t0 ([46, 46] : List Int) then
 some false
 else
 (loopC z1c (t0, 0)).bind fun o =>
 Sum.elim (fun y =>
 some true) (fun y2 =>
 some y2) o)
def zhy : Sig := ⟨21, [.d .str], [], 0, zi4⟩
def zhi (x : (List Int)) : Option ((Bool)) := zb7 x
theorem zoq : FnOK Tryd.prog zhy zhi :=
 fn_ok zfv (h := (.two .no (.two .no (.two (.two .no (.over (loopD z2v.xe z3a (loopC z1c)))) .no)))) Tryd.func21 (z1m [.den (.loop (subC (bodyC Tryd.f21) [1, 1, 0, 1, 0, 0])) (loopD z2v.xe z3a (loopC z1c))] (by kernel_rfl) ⟨zec, trivial⟩) (by kernel_rfl) zlv (fun x => by kernel_rfl)
def znb : Env := ⟨[], [], []⟩
theorem ze7 : EnvsOK Tryd.prog znb := ⟨z2q _, z1w _, z1v _⟩
def z9c : Shp := ⟨52, 0, [(1, .d (.int .i64)), (6, .d (.int .i64))], []⟩
def z8p : Shp := ⟨52, 0, [(4, .d (.int .i64))], []⟩
def z3c : XS := .or (.exit 0) z9c.xe (.one .ret z8p.xe)
theorem zd5 : z3c.OK := XS.or_ok (z0g z9c) (XS.one_ok (z0g z8p))
def z2u : Shp := ⟨52, 0, [(0, .d .str), (1, .d (.int .i64)), (5, .d (.int .i64)), (6, .d (.int .i64))], []⟩
abbrev z6b := (List Int) × Int × Int × Int
abbrev za3 := (Int × Int) ⊕ (Int)
def z6i (t0 : List Int) (t1 : Int) (n : Int) (t6 : Int) : Option (z6b ⊕ za3) :=
 z0i (List.length t0) (
 bif ltI t6 (List.length t0 : Nat) then
 (idxI t0 t6).bind fun x =>
 bif leI 48 x then
 (idxI t0 t6).bind fun x2 =>
 bif leI x2 57 then
 (idxI t0 t6).bind fun x3 =>
 bif ltI 4294967295 (W64 ((W64 (10 * n)) + (W64 (WU8 (x3 - 48))))) then
 some (.inr (.inr (-1)))
 else
 bif ltI (W64 (t1 + 1)) (W64 (t6 + 1)) then
 (idxI t0 t1).bind fun x4 =>
 bif eqI x4 48 then
 some (.inr (.inr (-1)))
 else
 some (.inl ((t0, t1, W64 ((W64 (10 * n)) + (W64 (WU8 (x3 - 48)))), W64 (t6 + 1))))
 else
 some (.inl ((t0, t1, W64 ((W64 (10 * n)) + (W64 (WU8 (x3 - 48)))), W64 (t6 + 1))))
 else
 some (.inr (.inl (t1, t6)))
 else
 some (.inr (.inl (t1, t6)))
 else
 some (.inr (.inl (t1, t6))))
def z1f (s : z6b) : Option (z6b ⊕ za3) := z6i s.1 s.2.1 s.2.2.1 s.2.2.2
theorem ze6 : SoundD Tryd.prog (.loop (subC (bodyC Tryd.f27) [1, 1, 0, 0, 0])) (loopD z2u.xe z3c (loopC z1f)) :=
 z4r (S := z2u.xe) (X := z3c) ze7 (h := .no) (z1m [] (by kernel_rfl) trivial) (z0g z2u) zd5 z1f (fun s => by kernel_rfl)
def zel : Shp := ⟨1, 0, [(0, .d (.int .i64))], []⟩
def zg7 : XS := .one .ret zel.xe
theorem zjv : zg7.OK := XS.one_ok (z0g zel)
def z8q (t0 : List Int) (t1 : Int) : Option ((Int)) :=
 (loopC z1f (t0, t1, 0, t1)).bind fun o =>
 Sum.elim (fun y =>
 bif eqI y.2 y.1 then
 some (-1)
 else
 some y.2) (fun y2 =>
 some y2) o
def zff : Sig := ⟨27, [.d .str, .d (.int .i64)], [], 0, zg7⟩
def zeq (x : (List Int) × Int) : Option ((Int)) := z8q x.1 x.2
theorem zmr : FnOK Tryd.prog zff zeq :=
 fn_ok ze7 (h := (.two .no (.two .no (.two (.over (loopD z2u.xe z3c (loopC z1f))) .no)))) Tryd.func27 (z1m [.den (.loop (subC (bodyC Tryd.f27) [1, 1, 0, 0, 0])) (loopD z2u.xe z3c (loopC z1f))] (by kernel_rfl) ⟨ze6, trivial⟩) (by kernel_rfl) zjv (fun x => by kernel_rfl)
def zpn : Env := ⟨[(entQ zhy zhi), (entQ zff zeq)], [], []⟩
theorem zga : EnvsOK Tryd.prog zpn := ⟨z0q (z1g zoq) (z0q (z1g zmr) (z2q _)), z1w _, z1v _⟩
def z8x : Shp := ⟨53, 0, [], []⟩
def z8s : Shp := ⟨53, 0, [(2, .d .bool)], []⟩
def z2r : XS := .or (.exit 0) z8x.xe (.one .ret z8s.xe)
theorem zdd : z2r.OK := XS.or_ok (z0g z8x) (XS.one_ok (z0g z8s))
def z2s : Shp := ⟨53, 0, [(0, .d .str), (3, .d (.int .i64))], []⟩
abbrev z6d := (List Int) × Int
abbrev za0 := (Unit) ⊕ (Bool)
def z6e (t0 : List Int) (i : Int) : Option (z6d ⊕ za0) :=
 z0i (List.length t0) (
 bif ltI i (List.length t0 : Nat) then
 (idxI t0 i).bind fun x =>
 bif neI x 126 then
 some (.inl (t0, W64 (i + 1)))
 else
 (z8q t0 (W64 (i + 1))).bind fun r =>
 bif subOk 0 i (List.length t0) then
 (zb7 (subL t0 0 i)).bind fun r2 =>
 bif !r2 then
 some (.inr (.inr false))
 else
 bif ltI r 0 then
 some (.inr (.inr false))
 else
 z0i (List.length t0) (
 bif leI (List.length t0 : Nat) r then
 some (.inr (.inr false))
 else
 (idxI t0 r).bind fun x2 =>
 bif neI x2 46 then
 some (.inr (.inr false))
 else
 (z8q t0 (W64 (r + 1))).bind fun r3 =>
 z0i (List.length t0) (
 some (.inr (.inr (eqI r3 (List.length t0 : Nat))))))
 else none
 else
 some (.inr (.inl ())))
def z1d (s : z6d) : Option (z6d ⊕ za0) := z6e s.1 s.2
theorem zeg : SoundD Tryd.prog (.loop (subC (bodyC Tryd.f14) [1, 1, 0, 1, 0, 0])) (loopD z2s.xe z2r (loopC z1d)) :=
 z4r (S := z2s.xe) (X := z2r) zga (h := .no) (z1m [] (by kernel_rfl) trivial) (z0g z2s) zdd z1d (fun s => by kernel_rfl)
def zfe : Shp := ⟨1, 0, [(0, .d .bool)], []⟩
def zi8 : XS := .one .ret zfe.xe
theorem zmt : zi8.OK := XS.one_ok (z0g zfe)
def zdk (t0 : List Int) : Option ((Bool)) :=
 bif eqS t0 ([108, 111, 115, 116, 43, 102, 111, 117, 110, 100] : List Int) then
 some true
 else
 (zb7 t0).bind fun r =>
 bif r then
 some true
 else
 (loopC z1d (t0, 0)).bind fun o =>
 Sum.elim (fun y =>
 some false) (fun y2 =>
 some y2) o
def zic : Sig := ⟨14, [.d .str], [], 0, zi8⟩
def zh8 (x : (List Int)) : Option ((Bool)) := zdk x
theorem zow : FnOK Tryd.prog zic zh8 :=
 fn_ok zga (h := (.two .no (.two .no (.two (.two .no (.over (loopD z2s.xe z2r (loopC z1d)))) .no)))) Tryd.func14 (z1m [.den (.loop (subC (bodyC Tryd.f14) [1, 1, 0, 1, 0, 0])) (loopD z2s.xe z2r (loopC z1d))] (by kernel_rfl) ⟨zeg, trivial⟩) (by kernel_rfl) zmt (fun x => by kernel_rfl)
def zpu : Env := ⟨[], [], []⟩
theorem zg2 : EnvsOK Tryd.prog zpu := ⟨z2q _, z1w _, z1v _⟩
def z8o : Shp := ⟨26, 0, [], []⟩
def z8k : Shp := ⟨26, 0, [(4, .d .bool)], []⟩
def z2w : XS := .or (.exit 0) z8o.xe (.one .ret z8k.xe)
theorem zdh : z2w.OK := XS.or_ok (z0g z8o) (XS.one_ok (z0g z8k))
def z2y : Shp := ⟨26, 0, [(0, .d (.sl .str)), (1, .d (.sl .str)), (12, .d (.int .i64)), (13, .d (.int .i64))], []⟩
abbrev z6m := (List (List Int)) × (List (List Int)) × Int × Int
abbrev za1 := (Unit) ⊕ (Bool)
def z6l (a : List (List Int)) (b : List (List Int)) (t12 : Int) (t13 : Int) : Option (z6m ⊕ za1) :=
 bif ltI t13 t12 then
 (idxI a t13).bind fun x =>
 (idxI b t13).bind fun x2 =>
 bif !(eqS x x2) then
 some (.inr (.inr false))
 else
 some (.inl (a, b, t12, W64 (t13 + 1)))
 else
 some (.inr (.inl ()))
def z0v (s : z6m) : Option (z6m ⊕ za1) := z6l s.1 s.2.1 s.2.2.1 s.2.2.2
theorem zea : SoundD Tryd.prog (.loop (subC (bodyC Tryd.f12) [1, 1, 0, 1, 0, 0])) (loopD z2y.xe z2w (loopC z0v)) :=
 z4r (S := z2y.xe) (X := z2w) zg2 (h := .no) (z1m [] (by kernel_rfl) trivial) (z0g z2y) zdh z0v (fun s => by kernel_rfl)
def zfl : Shp := ⟨1, 0, [(0, .d .bool)], []⟩
def zj3 : XS := .one .ret zfl.xe
theorem zll : zj3.OK := XS.one_ok (z0g zfl)
def zb0 (a : List (List Int)) (b : List (List Int)) : Option ((Bool)) :=
 z0i (List.length a) (
 z0i (List.length b) (
 bif neI (List.length a : Nat) (List.length b : Nat) then
 some false
 else
 z0i (List.length a) (
 (loopC z0v (a, b, (List.length a : Nat), 0)).bind fun o =>
 Sum.elim (fun y =>
 some true) (fun y2 =>
 some y2) o)))
def zhv : Sig := ⟨12, [.d (.sl .str), .d (.sl .str)], [], 0, zj3⟩
def zhd (x : (List (List Int)) × (List (List Int))) : Option ((Bool)) := zb0 x.1 x.2
theorem zp6 : FnOK Tryd.prog zhv zhd :=
 fn_ok zg2 (h := (.two .no (.two .no (.two (.two .no (.over (loopD z2y.xe z2w (loopC z0v)))) .no)))) Tryd.func12 (z1m [.den (.loop (subC (bodyC Tryd.f12) [1, 1, 0, 1, 0, 0])) (loopD z2y.xe z2w (loopC z0v))] (by kernel_rfl) ⟨zea, trivial⟩) (by kernel_rfl) zll (fun x => by kernel_rfl)
end Go.Proofs.YtgpmclpgcmgajaaDoor
set_option maxRecDepth 100000
set_option linter.unusedVariables false
set_option linter.unusedSimpArgs false
namespace Go.Proofs.YtgpmclpgcmgajaaDoor
open Go.Tm Go.Ab Go.Lib
def okI (x : Int) : Bool := z7d x || decide (48 ≤ x ∧ x ≤ 57) || (decide (x = 46) || decide (x = 95) || decide (x = 45))
def nameI (s : List Int) : Bool := decide (1 ≤ s.length ∧ s.length ≤ 12) && !decide (s = [46]) && !decide (s = [46, 46]) && s.all okI
theorem b8_eq {x : Int} (hx : 0 ≤ x ∧ x < 256) (c : UInt8) : (b8 x == c) = decide (x = c.toNat) := by
 rw [Bool.eq_iff_iff, beq_iff_eq, decide_eq_true_eq]
 constructor
 · intro e; rw [← e, zbg hx]
 · intro e
   apply UInt8.toNat_inj.1
   have := zbg hx
   omega
theorem zui {x : Int} (hx : 0 ≤ x ∧ x < 256) : okc (b8 x) = okI x := by
 unfold okc okI
 have h := zbg hx
 rw [h, b8_eq hx, b8_eq hx, b8_eq hx]
 have : decide (48 ≤ (b8 x).toNat ∧ (b8 x).toNat ≤ 57) = decide (48 ≤ x ∧ x ≤ 57) := by
   rw [Bool.eq_iff_iff, decide_eq_true_eq, decide_eq_true_eq]; omega
 rw [this]; rfl
theorem zux {s t : List Int} (hs : Bs s) (ht : Bs t) : s.map b8 = t.map b8 ↔ s = t := by
 constructor
 · intro h
   induction s generalizing t with
   | nil => cases t with
     | nil => rfl
     | cons y t => simp at h
   | cons x s ih => cases t with
     | nil => simp at h
     | cons y t =>
       simp only [List.map_cons, List.cons.injEq] at h
       rw [zj1 (hs x (by simp)) (ht y (by simp)) h.1, ih (fun z hz => hs z (by simp [hz])) (fun z hz => ht z (by simp [hz])) h.2]
 · rintro rfl; rfl
theorem zyd {s : List Int} (hb : Bs s) : nameB (ba s) = nameI s := by
 unfold nameB nameI
 have e0 : (ba s).data.toList = s.map b8 := zdw s
 rw [e0, z5l]
 have h1 : (s.map b8 == [46]) = decide (s = [46]) := by
   rw [Bool.eq_iff_iff, beq_iff_eq, decide_eq_true_eq]
   exact zux (t := [46]) hb (fun x hx => by simp at hx; subst hx; decide)
 have h2 : (s.map b8 == [46, 46]) = decide (s = [46, 46]) := by
   rw [Bool.eq_iff_iff, beq_iff_eq, decide_eq_true_eq]
   exact zux (t := [46, 46]) hb (fun x hx => by simp at hx; subst hx; decide)
 have h3 : (s.map b8).all okc = s.all okI := by
   rw [List.all_map]
   rw [Bool.eq_iff_iff, List.all_eq_true, List.all_eq_true]
   constructor
   · intro h x hx; rw [← zui (hb x hx)]; exact h x hx
   · intro h x hx; show okc (b8 x) = true; rw [zui (hb x hx)]; exact h x hx
 rw [h1, h2, h3]
theorem ztx {s : List Int} (hb : Bs s) (hl : s.length ≤ 1000) : zh6 s = some (nameI s) := by
 unfold zh6 zcf
 rw [ble_t (by omega), zyd hb]; rfl
theorem zid {s : List Int} (hb : Bs s) (hl : s.length ≤ 1000) : zbd s = some (canon s) := by
 unfold zbd zcf
 rw [ble_t (by omega), zup hb]; rfl
theorem zlm {s : List Int} (hb : Bs s) (hl : s.length ≤ 1000) : zb7 s = some (nameI s) := by
 refine ok_is ?_
 unfold zb7 nameI
 repeat' first
   | (dsimp only [Int.toNat_natCast, List.length_nil])
   | with_reducible first | refine z1r ?_ | refine z2b ?_ | refine z0k ?_ | refine z2c ?_ | refine z1n ?_ | refine z3n ?_ | refine qs ?_ | refine qb ?_ | refine z3k ?_ | refine qw ?_ | refine z3o ?_ | refine z3p ?_ | refine qi ?_ | refine qg (h := ?_) | refine qx (h := ?_) | refine qy (h := ?_) | refine qa ?_ | refine qc ?_ | refine ql ?_ | refine qp ?_ | refine z1o ?_ | rfl
   | (with_reducible first | refine ok_lt ?_ ?_ | refine ok_le ?_ ?_ | refine z3m ?_ ?_ | refine z3j ?_ ?_ | refine z3l ?_ ?_ | refine qu ?_ ?_ | refine ok_if ?_ ?_) <;> intro _ <;> try (exfalso; omega)
 · rename_i h; subst h; rfl
 · rename_i h1 h2; rw [decide_eq_false (p := 1 ≤ s.length ∧ _) (by omega)]; rfl
 · rename_i h1 h2 h3; subst h3; rfl
 · rename_i h1 h2 h3 h4; subst h4; rfl
 · rename_i h1 h2 h3 h4
   have hpos : 1 ≤ s.length := by
     cases s with
     | nil => exact absurd rfl h1
     | cons x l => simp
   have e : (decide (1 ≤ s.length ∧ s.length ≤ 12) && !decide (s = [46]) && !decide (s = [46, 46]) && s.all okI) = s.all okI := by
     rw [decide_eq_true (p := 1 ≤ s.length ∧ _) ⟨hpos, by omega⟩, decide_eq_false h3, decide_eq_false h4]; simp
   rw [e]
   refine zik s.length (fun i _ => (s, (i : Int))) (fun i (_ : Unit) => (s.take i).all okI = true) () rfl rfl (fun _ hall => ?_) fun i _ hi hall => ?_
   · unfold z1c z6n
     dsimp only
     repeat' first
       | (dsimp only [Int.toNat_natCast, List.length_nil])
       | with_reducible first | refine z1r ?_ | refine z2b ?_ | refine z0k ?_ | refine z2c ?_ | refine z1n ?_ | refine z3n ?_ | refine qs ?_ | refine qb ?_ | refine z3k ?_ | refine qw ?_ | refine z3o ?_ | refine z3p ?_ | refine qi ?_ | refine qg (h := ?_) | refine qx (h := ?_) | refine qy (h := ?_) | refine qa ?_ | refine qc ?_ | refine ql ?_ | refine qp ?_ | refine z1o ?_ | rfl
       | (with_reducible first | refine ok_lt ?_ ?_ | refine ok_le ?_ ?_ | refine z3m ?_ ?_ | refine z3j ?_ ?_ | refine z3l ?_ ?_ | refine qu ?_ ?_ | refine ok_if ?_ ?_) <;> intro _ <;> try (exfalso; omega)
     rw [List.take_length] at hall
     exact hall.symm
   · unfold z1c z6n
     dsimp only
     have hx := hb s[i] (List.getElem_mem hi)
     have hstep : okI s[i] = true → (s.take (i + 1)).all okI = true := fun h => by
       rw [List.take_succ_eq_append_getElem hi, List.all_append, hall, List.all_cons, h]; rfl
     have hno : okI s[i] = false → s.all okI = false := fun h => by
       rw [List.all_eq_false]; exact ⟨s[i], List.getElem_mem hi, by simp [h]⟩
     have hok : okI s[i] = (decide (97 ≤ s[i] ∧ s[i] ≤ 122) || decide (65 ≤ s[i] ∧ s[i] ≤ 90) || decide (48 ≤ s[i] ∧ s[i] ≤ 57) || (decide (s[i] = 46) || decide (s[i] = 95) || decide (s[i] = 45))) := rfl
     repeat' first
       | (dsimp only [Int.toNat_natCast, List.length_nil])
       | with_reducible first | refine z1r ?_ | refine z2b ?_ | refine z0k ?_ | refine z2c ?_ | refine z1n ?_ | refine z3n ?_ | refine qs ?_ | refine qb ?_ | refine z3k ?_ | refine qw ?_ | refine z3o ?_ | refine z3p ?_ | refine qi ?_ | refine qg (h := ?_) | refine qx (h := ?_) | refine qy (h := ?_) | refine qa ?_ | refine qc ?_ | refine ql ?_ | refine qp ?_ | refine z1o ?_ | rfl
       | (with_reducible first | refine ok_lt ?_ ?_ | refine ok_le ?_ ?_ | refine z3m ?_ ?_ | refine z3j ?_ ?_ | refine z3l ?_ ?_ | refine qu ?_ ?_ | refine ok_if ?_ ?_) <;> intro _ <;> try (exfalso; omega)
     all_goals first
       | (refine ⟨(), by rw [z6w (by omega)]; rfl, hstep ?_⟩; rw [hok]; simp only [Bool.or_eq_true, decide_eq_true_eq, Bool.not_eq_true', Bool.not_eq_false', decide_eq_false_iff_not] at *; omega)
       | (refine (hno ?_).symm; rw [hok]; simp only [Bool.or_eq_false_iff, Bool.or_eq_true, decide_eq_true_eq, Bool.not_eq_true', Bool.not_eq_false', decide_eq_false_iff_not] at *; omega)
end Go.Proofs.YtgpmclpgcmgajaaDoor
set_option maxRecDepth 100000
set_option linter.unusedVariables false
set_option linter.unusedSimpArgs false
namespace Go.Proofs.YtgpmclpgcmgajaaDoor
open Go.Tm Go.Ab Go.Lib
def cutI (c : Int) : List Int → List Int × List Int × Bool
 | [] => ([], [], false)
 | x :: l => if x = c then ([], l, true) else (x :: (cutI c l).1, (cutI c l).2.1, (cutI c l).2.2)
theorem ze8 (c : Int) : ∀ (s : List Int), (∀ x, x ∈ s → x ≠ c) → cutI c s = (s, [], false)
 | [], _ => rfl
 | x :: l, h => by rw [cutI, if_neg (h x (by simp)), ze8 c l fun y hy => h y (by simp [hy])]
theorem zn6 (c : Int) : ∀ (a b : List Int), (∀ x, x ∈ a → x ≠ c) → cutI c (a ++ c :: b) = (a, b, true)
 | [], b, _ => by simp [cutI]
 | x :: a, b, h => by rw [List.cons_append, cutI, if_neg (h x (by simp)), zn6 c a b fun y hy => h y (by simp [hy])]
theorem z5y (c : Int) : ∀ (s : List Int), ((∀ x, x ∈ s → x ≠ c) ∧ cutI c s = (s, [], false)) ∨ ∃ a b, (∀ x, x ∈ a → x ≠ c) ∧ s = a ++ c :: b ∧ cutI c s = (a, b, true)
 | [] => .inl ⟨(by intro x h; cases h), rfl⟩
 | y :: l => by
   by_cases h : y = c
   · subst h
     exact .inr ⟨[], l, (by intro x h; cases h), rfl, by simp [cutI]⟩
   · rcases z5y c l with ⟨h1, h2⟩ | ⟨a, b, h1, h2, h3⟩
     · have hm : ∀ x, x ∈ y :: l → x ≠ c := fun x hx => by
         rcases List.mem_cons.1 hx with rfl | hx
         · exact h
         · exact h1 x hx
       exact .inl ⟨hm, ze8 c _ hm⟩
     · refine .inr ⟨y :: a, b, fun x hx => ?_, by rw [h2]; rfl, ?_⟩
       · rcases List.mem_cons.1 hx with rfl | hx
         · exact h
         · exact h1 x hx
       · rw [cutI, if_neg h, h3]
theorem zma {c : Int} (hc : 0 ≤ c ∧ c < 256) : ∀ (s : List Int), Bs s → (∀ x, x ∈ s → x ≠ c) → indexByte (s.map b8) (b8 c) = -1
 | [], _, _ => rfl
 | x :: l, hb, h => by
   have ih := zma hc l (fun y hy => hb y (by simp [hy])) fun y hy => h y (by simp [hy])
   have hne : (b8 x == b8 c) = false := by
     rw [beq_eq_false_iff_ne]
     exact fun e => h x (by simp) (zj1 (hb x (by simp)) hc e)
   rw [List.map_cons, indexByte, hne, ih]; rfl
theorem zj5 {c : Int} (hc : 0 ≤ c ∧ c < 256) : ∀ (a b : List Int), Bs a → (∀ x, x ∈ a → x ≠ c) → indexByte ((a ++ c :: b).map b8) (b8 c) = a.length
 | [], b, _, _ => by simp [indexByte]
 | x :: a, b, hb, h => by
   have ih := zj5 hc a b (fun y hy => hb y (by simp [hy])) fun y hy => h y (by simp [hy])
   have hne : (b8 x == b8 c) = false := by
     rw [beq_eq_false_iff_ne]
     exact fun e => h x (by simp) (zj1 (hb x (by simp)) hc e)
   rw [List.cons_append, List.map_cons, indexByte, hne, ih]
   have : (((a.length : Nat) : Int) == -1) = false := by rw [beq_eq_false_iff_ne]; omega
   rw [this]
   simp
theorem zu8 (s : List Int) (c : Int) : zg8 s c = indexByte (s.map b8) (b8 c) := by
 unfold zg8
 rw [show (ba s).data.toList = s.map b8 from zdw s]
 rfl
theorem zwu {s : List Int} {c : Int} (hl : s.length ≤ 1000) : z3f s [c] = some (indexByte (s.map b8) (b8 c)) := by
 have hI : z1z s c = some (indexByte (s.map b8) (b8 c)) := by
   unfold z1z
   rw [z7p (by omega), zu8]
 unfold z3f
 have e1 : idxI [c] 0 = some c := rfl
 have e2 : eqI (([c] : List Int).length : Nat) 0 = false := rfl
 have e3 : eqI (([c] : List Int).length : Nat) 1 = true := rfl
 have e4 : eqS [c] s = true → s = [c] := fun h => (of_decide_eq_true h).symm
 rw [z7p (by simp), e2]
 simp only [cond_false, Option.bind_some, e1, e3, cond_true, hI]
 cases h : eqS [c] s with
 | false => rfl
 | true =>
   rw [e4 h]
   simp [indexByte]
theorem zw1 {s : List Int} {c : Int} (hb : Bs s) (hc : 0 ≤ c ∧ c < 256) (hl : s.length ≤ 1000) : z9y s [c] = some (cutI c s) := by
 have key : z3x s [c] = some (cutI c s) := by
   unfold z3x
   rw [zwu hl]
   simp only [Option.bind_some]
   rcases z5y c s with ⟨h1, h2⟩ | ⟨a, b, h1, h2, h3⟩
   · rw [zma hc s hb h1, h2]; rfl
   · have hba : Bs a := fun x hx => hb x (by rw [h2]; simp [hx])
     have hlen : s.length = a.length + (b.length + 1) := by rw [h2]; simp
     have hi : indexByte (s.map b8) (b8 c) = a.length := by
       have := zj5 hc a b hba h1
       rw [← h2] at this
       exact this
     rw [hi, h3, leI_t (by omega), cond_true, zif (by omega), cond_true, z7p (by simp), z6w (by simp; omega)]
     have e : ((a.length : Int) + ((([c] : List Int).length : Nat) : Int)) = ((a.length + 1 : Nat) : Int) := by simp
     rw [e, zif (by omega), cond_true]
     have g1 : subL s 0 (a.length : Int) = a := by simp [subL, h2]
     have g2 : subL s ((a.length + 1 : Nat) : Int) (s.length : Int) = b := by
       simp only [subL, Int.toNat_natCast]
       rw [hlen, h2, List.drop_append, List.drop_eq_nil_of_le (by omega), List.nil_append, show a.length + 1 - a.length = 1 by omega]
       simp only [List.drop_succ_cons, List.drop_zero]
       exact List.take_of_length_le (by omega)
     rw [g1, g2]
 unfold z9y
 rw [key]; rfl
theorem zs7 : ∀ (p q : List Int) (a : Int), val a (p ++ q) = val (val a p) q
 | [], q, a => rfl
 | x :: p, q, a => by rw [List.cons_append, val, val, zs7 p q]
theorem zr2 (t : List Int) : (t.takeWhile isD).all isD = true := by
 rw [List.all_eq_true]
 intro x hx
 induction t with
 | nil => simp at hx
 | cons y t ih =>
   rw [List.takeWhile_cons] at hx
   split at hx
   · rcases List.mem_cons.1 hx with rfl | hx
     · assumption
     · exact ih hx
   · cases hx
theorem zi2 (p q : List Int) (h : p.all isD = true) : (p ++ q).takeWhile isD = p ++ q.takeWhile isD := by
 induction p with
 | nil => rfl
 | cons x p ih =>
   rw [List.all_cons, Bool.and_eq_true] at h
   rw [List.cons_append, List.takeWhile_cons, if_pos h.1, ih h.2]; rfl
def numI (t : List Int) (from_ : Nat) : Int := if canon (t.takeWhile isD) = true then ((from_ + (t.takeWhile isD).length : Nat) : Int) else -1
theorem zw9 {p q : List Int} (h : (p ++ q).all isD = true) (hv : 4294967295 < val 0 p) : canon (p ++ q) = false := by
 rw [List.all_append, Bool.and_eq_true] at h
 have h0 : 0 ≤ val 0 p := zi6 p 0 (by omega) h.1
 have := zi6 q (val 0 p) h0 h.2
 unfold canon
 rw [zs7, decide_eq_false (by omega), Bool.and_false]
theorem zt1 {p q : List Int} (h2 : 2 ≤ p.length) (h : p.head? = some 48) : canon (p ++ q) = false := by
 have : lead (p ++ q) = true := by
   unfold lead
   rw [decide_eq_true (by simp; omega), Bool.true_and, decide_eq_true_eq]
   cases p with
   | nil => simp at h2
   | cons x p => simpa using h
 unfold canon
 rw [this]; simp
theorem zoj {s : List Int} (hb : Bs s) (hl : s.length ≤ 1000) (at_ : Nat) (ha : at_ ≤ s.length) : z8q s (at_ : Int) = some (numI (s.drop at_) at_) := by
 refine ok_is ?_
 unfold z8q
 have hlen : (s.drop at_).length = s.length - at_ := List.length_drop
 refine z1o ?_
 refine zik (s.length - at_) (fun i _ => (s, (at_ : Int), val 0 ((s.drop at_).take i), ((at_ + i : Nat) : Int)))
   (fun i (_ : Unit) => ((s.drop at_).take i).all isD = true ∧ 0 ≤ val 0 ((s.drop at_).take i) ∧ val 0 ((s.drop at_).take i) ≤ 4294967295 ∧ lead ((s.drop at_).take i) = false) () rfl ⟨by simp, by simp [val], by simp [val], by simp [lead]⟩ (fun _ hI => ?_) fun i _ hi hI => ?_
 · obtain ⟨h1, h2, h3, h4⟩ := hI
   unfold z1f z6i
   dsimp only
   have htw : (s.drop at_).takeWhile isD = s.drop at_ := by
     have := zi2 (s.drop at_) [] (by rw [← hlen, List.take_length] at h1; exact h1)
     simpa using this
   rw [← hlen, List.take_length] at h1 h2 h3 h4
   repeat' first
     | (dsimp only [Int.toNat_natCast, List.length_nil])
     | with_reducible first | refine z1r ?_ | refine z2b ?_ | refine z0k ?_ | refine z2c ?_ | refine z1n ?_ | refine z3n ?_ | refine qs ?_ | refine qb ?_ | refine z3k ?_ | refine qw ?_ | refine z3o ?_ | refine z3p ?_ | refine qi ?_ | refine qg (h := ?_) | refine qx (h := ?_) | refine qy (h := ?_) | refine qa ?_ | refine qc ?_ | refine ql ?_ | refine qp ?_ | refine z1o ?_ | rfl
     | (with_reducible first | refine ok_lt ?_ ?_ | refine ok_le ?_ ?_ | refine z3m ?_ ?_ | refine z3j ?_ ?_ | refine z3l ?_ ?_ | refine qu ?_ ?_ | refine ok_if ?_ ?_) <;> intro _ <;> try (exfalso; omega)
   · unfold numI
     rw [htw]
     rename_i h
     have : s.drop at_ = [] := List.length_eq_zero_iff.1 (by omega)
     rw [this]; rfl
   · unfold numI
     rw [htw]
     rename_i h
     have hne : s.drop at_ ≠ [] := fun e => by rw [e] at hlen; simp at hlen; omega
     have : canon (s.drop at_) = true := by
       unfold canon
       rw [h1, h4, decide_eq_true h3]
       simp [hne]
     rw [if_pos this]
     congr 1
     omega
 · obtain ⟨h1, h2, h3, h4⟩ := hI
   unfold z1f z6i
   dsimp only
   have hi' : i < (s.drop at_).length := by omega
   have hj : at_ + i < s.length := by omega
   have hx : (s.drop at_)[i] = s[at_ + i] := by simp
   have hbx := hb s[at_ + i] (List.getElem_mem hj)
   have htk : (s.drop at_).take (i + 1) = (s.drop at_).take i ++ [s[at_ + i]] := by rw [List.take_succ_eq_append_getElem hi', hx]
   have hsplit : s.drop at_ = (s.drop at_).take i ++ s[at_ + i] :: (s.drop at_).drop (i + 1) := by
     rw [← hx, ← List.drop_eq_getElem_cons hi', List.take_append_drop]
   have hstop : isD s[at_ + i] = false → (s.drop at_).takeWhile isD = (s.drop at_).take i := fun hd => by
     conv => lhs; rw [hsplit]
     rw [zi2 _ _ h1, List.takeWhile_cons, if_neg (by simp [hd]), List.append_nil]
   have hgo : isD s[at_ + i] = true → ((s.drop at_).take (i + 1)).all isD = true := fun hd => by
     rw [htk, List.all_append, h1, List.all_cons, hd]; rfl
   have hmore : isD s[at_ + i] = true → ∃ q, (s.drop at_).takeWhile isD = (s.drop at_).take (i + 1) ++ q ∧ ((s.drop at_).take (i + 1) ++ q).all isD = true := fun hd => by
     refine ⟨((s.drop at_).drop (i + 1)).takeWhile isD, ?_, ?_⟩
     · conv => lhs; rw [← List.take_append_drop (i + 1) (s.drop at_)]
       exact zi2 _ _ (hgo hd)
     · rw [List.all_append, hgo hd, zr2]; rfl
   have hval : val 0 ((s.drop at_).take (i + 1)) = 10 * val 0 ((s.drop at_).take i) + (s[at_ + i] - 48) := by rw [htk, zkn]
   have hlenT : ((s.drop at_).take (i + 1)).length = i + 1 := by rw [List.length_take]; omega
   have hhead : ((s.drop at_).take (i + 1)).head? = some (s[at_]'(by omega)) := by
     rw [List.head?_take, if_neg (by omega), List.head?_drop, List.getElem?_eq_getElem]
   have hw : ∀ x : Int, 48 ≤ x → x ≤ 57 → W64 (WU8 (x - 48)) = x - 48 := fun x h1 h2 => by rw [z10d (by omega), z6w (by omega)]
   have hend : isD s[at_ + i] = false → numI (s.drop at_) at_ = if i = 0 then -1 else ((at_ + i : Nat) : Int) := fun hd => by
     unfold numI
     rw [hstop hd]
     have hl2 : ((s.drop at_).take i).length = i := by rw [List.length_take]; omega
     by_cases h0 : i = 0
     · rw [if_pos h0, h0]; rfl
     · rw [if_neg h0]
       have : canon ((s.drop at_).take i) = true := by
         unfold canon
         rw [h1, h4, decide_eq_true h3]
         have : (s.drop at_).take i ≠ [] := fun e => by rw [e] at hl2; simp at hl2; omega
         simp only [Bool.and_true, Bool.not_false, Bool.not_eq_true', List.isEmpty_eq_false_iff]
         exact this
       rw [if_pos this, hl2]
   have hW : ∀ (h : isD s[at_ + i] = true), (W64 ((W64 (10 * val 0 ((s.drop at_).take i))) + (W64 (WU8 (s[at_ + i] - 48))))) = val 0 ((s.drop at_).take (i + 1)) := fun h => by
     rw [z4z] at h
     rw [hw _ h.1 h.2, z6w (n := 10 * _) (by omega), z6w (by omega), hval]
   repeat' first
     | (dsimp only [Int.toNat_natCast, List.length_nil])
     | with_reducible first | refine z1r ?_ | refine z2b ?_ | refine z0k ?_ | refine z2c ?_ | refine z1n ?_ | refine z3n ?_ | refine qs ?_ | refine qb ?_ | refine z3k ?_ | refine qw ?_ | refine z3o ?_ | refine z3p ?_ | refine qi ?_ | refine qg (h := ?_) | refine qx (h := ?_) | refine qy (h := ?_) | refine qa ?_ | refine qc ?_ | refine ql ?_ | refine qp ?_ | refine z1o ?_ | rfl
     | (with_reducible first | refine ok_lt ?_ ?_ | refine ok_le ?_ ?_ | refine z3m ?_ ?_ | refine z3j ?_ ?_ | refine z3l ?_ ?_ | refine qu ?_ ?_ | refine ok_if ?_ ?_) <;> intro _ <;> try (exfalso; omega)
   · rename_i _ d1 d2 hbig
     have hd : isD s[at_ + i] = true := z4z.2 ⟨d1, d2⟩
     rw [hW hd] at hbig
     obtain ⟨q, q1, q2⟩ := hmore hd
     unfold numI
     rw [q1, zw9 q2 hbig]; rfl
   · rename_i _ d1 d2 hsm hlt h48
     have hd : isD s[at_ + i] = true := z4z.2 ⟨d1, d2⟩
     rw [z6w (by omega), z6w (by omega)] at hlt
     obtain ⟨q, q1, q2⟩ := hmore hd
     unfold numI
     rw [q1, zt1 (by rw [hlenT]; omega) (by rw [hhead, h48])]; rfl
   · rename_i _ d1 d2 hsm hlt h48
     have hd : isD s[at_ + i] = true := z4z.2 ⟨d1, d2⟩
     rw [hW hd] at hsm
     refine ⟨(), by rw [hW hd, z6w (by omega)]; rfl, hgo hd, ?_, by omega, ?_⟩
     · rw [z4z] at hd; omega
     · unfold lead
       rw [hhead, decide_eq_false (p := some s[at_] = some 48) (fun e => h48 (Option.some.inj e)), Bool.and_false]
   · rename_i _ d1 d2 hsm hlt
     have hd : isD s[at_ + i] = true := z4z.2 ⟨d1, d2⟩
     rw [hW hd] at hsm
     rw [z6w (by omega), z6w (by omega)] at hlt
     refine ⟨(), by rw [hW hd, z6w (by omega)]; rfl, hgo hd, ?_, by omega, ?_⟩
     · rw [z4z] at hd; omega
     · unfold lead
       rw [decide_eq_false (by rw [hlenT]; omega), Bool.false_and]
   all_goals
     rename_i h0
     have hd : isD s[at_ + i] = false := by
       cases h : isD s[at_ + i] with
       | false => rfl
       | true => rw [z4z] at h; omega
     rw [hend hd]
   · rw [if_pos (by omega)]
   · rw [if_neg (by omega)]
   · rw [if_pos (by omega)]
   · rw [if_neg (by omega)]
def lostI : List Int := [108, 111, 115, 116, 43, 102, 111, 117, 110, 100]
def partI (s : List Int) : Bool := decide (s = lostI) || (nameI (cutI 126 s).1 && (!(cutI 126 s).2.2 || ((cutI 46 (cutI 126 s).2.1).2.2 && canon (cutI 46 (cutI 126 s).2.1).1 && canon (cutI 46 (cutI 126 s).2.1).2.1)))
theorem zvj {c : Int} {s : List Int} (hb : Bs s) : Bs (cutI c s).1 ∧ Bs (cutI c s).2.1 ∧ (cutI c s).1.length ≤ s.length ∧ (cutI c s).2.1.length ≤ s.length := by
 rcases z5y c s with ⟨_, h2⟩ | ⟨a, b, _, h2, h3⟩
 · rw [h2]
   exact ⟨hb, (by intro x h; cases h), Nat.le_refl _, Nat.zero_le _⟩
 · rw [h3]
   exact ⟨fun x hx => hb x (by rw [h2]; simp [hx]), fun x hx => hb x (by rw [h2]; simp [hx]), by rw [h2]; simp, by rw [h2]; simp; omega⟩
theorem zyw {s : List Int} (hb : Bs s) (hl : s.length ≤ 1000) : zev s = some (partI s) := by
 obtain ⟨b1, b2, b3, b4⟩ := zvj (c := 126) hb
 obtain ⟨d1, d2, d3, d4⟩ := zvj (c := 46) b2
 unfold zev partI
 rw [zw1 hb (by decide) hl]
 simp only [Option.bind_some]
 rw [ztx b1 (by omega)]
 simp only [Option.bind_some]
 rw [zw1 b2 (by decide) (by omega)]
 simp only [Option.bind_some]
 rw [zid d1 (by omega), zid d2 (by omega)]
 simp only [Option.bind_some]
 by_cases h0 : s = lostI
 · have : eqS s ([108, 111, 115, 116, 43, 102, 111, 117, 110, 100] : List Int) = true := eqS_t h0
   rw [this, decide_eq_true h0]; rfl
 · have : eqS s ([108, 111, 115, 116, 43, 102, 111, 117, 110, 100] : List Int) = false := eqS_f h0
   rw [this, decide_eq_false h0]
   cases nameI (cutI 126 s).1 <;> cases (cutI 126 s).2.2 <;> cases (cutI 46 (cutI 126 s).2.1).2.2 <;> cases canon (cutI 46 (cutI 126 s).2.1).1 <;> cases canon (cutI 46 (cutI 126 s).2.1).2.1 <;> rfl
theorem z9f {s : List Int} (h : canon s = true) : s.all isD = true ∧ s ≠ [] := by
 unfold canon at h
 simp only [Bool.and_eq_true, Bool.not_eq_true', List.isEmpty_eq_false_iff] at h
 exact ⟨h.1.1.2, h.1.1.1⟩
theorem zya {s : List Int} (h : s.all isD = true) : s.takeWhile isD = s := by simpa using zi2 s [] h
theorem zyb {s : List Int} (h : nameI s = true) : ∀ x, x ∈ s → x ≠ 126 := by
 unfold nameI at h
 simp only [Bool.and_eq_true] at h
 intro x hx e
 subst e
 have := List.all_eq_true.1 h.2 126 hx
 revert this
 decide
theorem zsk (d : List Int) (y : Int) (r : List Int) (hd : d.all isD = true) (hy : isD y = false) : (d ++ y :: r).takeWhile isD = d := by
 rw [zi2 _ _ hd, List.takeWhile_cons, if_neg (by simp [hy]), List.append_nil]
theorem zwj (t : List Int) : t = t.takeWhile isD ∨ ∃ y r, t = t.takeWhile isD ++ y :: r ∧ isD y = false := by
 induction t with
 | nil => exact .inl rfl
 | cons x t ih =>
   rw [List.takeWhile_cons]
   cases h : isD x with
   | false => exact .inr ⟨x, t, by simp, h⟩
   | true =>
     rcases ih with ih | ⟨y, r, h1, h2⟩
     · left; simp only [if_true]; rw [← ih]
     · right; refine ⟨y, r, ?_, h2⟩; simp only [if_true]; rw [List.cons_append, ← h1]
theorem zo3 {d : List Int} (h : d.all isD = true) : ∀ x, x ∈ d → x ≠ 46 := fun x hx e => by
 have := List.all_eq_true.1 h x hx
 subst e
 revert this; decide
def tagR (t : List Int) : Bool := (cutI 46 t).2.2 && canon (cutI 46 t).1 && canon (cutI 46 t).2.1
theorem zyg {t : List Int} (h : canon (t.takeWhile isD) = false) : tagR t = false := by
 unfold tagR
 rcases z5y 46 t with ⟨_, h2⟩ | ⟨a, b, h1, h2, h3⟩
 · rw [h2]; rfl
 · rw [h3]
   cases hc : canon a with
   | false => simp
   | true =>
     have ha := (z9f hc).1
     rw [h2, zsk a 46 b ha (by decide), hc] at h
     cases h
theorem zyc {t : List Int} (h : t = t.takeWhile isD) : tagR t = false := by
 unfold tagR
 rw [ze8 46 t (zo3 (by rw [h]; exact zr2 _))]; rfl
theorem zvs {t r : List Int} {y : Int} (h : t = t.takeWhile isD ++ y :: r) (hy : isD y = false) (h46 : y ≠ 46) : tagR t = false := by
 unfold tagR
 rcases z5y 46 t with ⟨_, h2⟩ | ⟨a, b, h1, h2, h3⟩
 · rw [h2]; rfl
 · rw [h3]
   cases hc : canon a with
   | false => simp
   | true =>
     have ha := (z9f hc).1
     have e := h
     rw [h2, zsk a 46 b ha (by decide)] at e
     have := List.append_cancel_left e
     simp only [List.cons.injEq] at this
     exact absurd this.1.symm h46
theorem zyo {t r : List Int} (h : t = t.takeWhile isD ++ 46 :: r) : tagR t = (canon (t.takeWhile isD) && canon r) := by
 unfold tagR
 have := zn6 46 (t.takeWhile isD) r (zo3 (zr2 t))
 rw [← h] at this
 rw [this]; rfl
theorem zxv (r : List Int) (k : Nat) : eqI (numI r k) ((k + r.length : Nat) : Int) = canon r := by
 have hself : canon r = true → r.takeWhile isD = r := fun h => zya (z9f h).1
 cases hc : canon r with
 | true =>
   unfold numI
   rw [hself hc, hc, if_pos rfl]
   exact eqI_t rfl
 | false =>
   refine eqI_f ?_
   unfold numI
   split
   · rename_i h
     intro e
     have e2 : (r.takeWhile isD).length = r.length := by omega
     have : r.takeWhile isD = r := (List.takeWhile_prefix isD).eq_of_length e2
     rw [this, hc] at h
     cases h
   · omega
theorem zth {s : List Int} (hb : Bs s) (hl : s.length ≤ 1000) : zdk s = some (partI s) := by
 refine ok_is ?_
 unfold zdk
 rw [zlm hb hl]
 have hnm : nameI s = true → partI s = true := fun h => by
   unfold partI
   rw [ze8 126 s (zyb h), h]; simp
 repeat' first
   | (dsimp only [Int.toNat_natCast, List.length_nil])
   | with_reducible first | refine z1r ?_ | refine z2b ?_ | refine z0k ?_ | refine z2c ?_ | refine z1n ?_ | refine z3n ?_ | refine qs ?_ | refine qb ?_ | refine z3k ?_ | refine qw ?_ | refine z3o ?_ | refine z3p ?_ | refine qi ?_ | refine qg (h := ?_) | refine qx (h := ?_) | refine qy (h := ?_) | refine qa ?_ | refine qc ?_ | refine ql ?_ | refine qp ?_ | refine z1o ?_ | rfl
   | (with_reducible first | refine ok_lt ?_ ?_ | refine ok_le ?_ ?_ | refine z3m ?_ ?_ | refine z3j ?_ ?_ | refine z3l ?_ ?_ | refine qu ?_ ?_ | refine ok_if ?_ ?_) <;> intro _ <;> try (exfalso; omega)
 · rename_i h
   unfold partI
   rw [decide_eq_true (show s = lostI from h)]; rfl
 · rename_i h1 h2
   exact (hnm h2).symm
 · rename_i h1 h2
   have hp : partI s = (nameI (cutI 126 s).1 && (!(cutI 126 s).2.2 || tagR (cutI 126 s).2.1)) := by
     unfold partI
     rw [decide_eq_false (show ¬ s = lostI from h1)]; rfl
   rw [hp]
   refine zik s.length (fun i _ => (s, (i : Int))) (fun i (_ : Unit) => ∀ x, x ∈ s.take i → x ≠ 126) () rfl (by simp) (fun _ hall => ?_) fun i _ hi hall => ?_
   · unfold z1d z6e
     dsimp only
     repeat' first
       | (dsimp only [Int.toNat_natCast, List.length_nil])
       | with_reducible first | refine z1r ?_ | refine z2b ?_ | refine z0k ?_ | refine z2c ?_ | refine z1n ?_ | refine z3n ?_ | refine qs ?_ | refine qb ?_ | refine z3k ?_ | refine qw ?_ | refine z3o ?_ | refine z3p ?_ | refine qi ?_ | refine qg (h := ?_) | refine qx (h := ?_) | refine qy (h := ?_) | refine qa ?_ | refine qc ?_ | refine ql ?_ | refine qp ?_ | refine z1o ?_ | rfl
       | (with_reducible first | refine ok_lt ?_ ?_ | refine ok_le ?_ ?_ | refine z3m ?_ ?_ | refine z3j ?_ ?_ | refine z3l ?_ ?_ | refine qu ?_ ?_ | refine ok_if ?_ ?_) <;> intro _ <;> try (exfalso; omega)
     rw [List.take_length] at hall
     rw [ze8 126 s hall, h2]; rfl
   · unfold z1d z6e
     dsimp only
     have hsp : s = s.take i ++ s[i] :: s.drop (i + 1) := by rw [← List.drop_eq_getElem_cons hi, List.take_append_drop]
     by_cases h126 : s[i] = 126
     · have hcut : cutI 126 s = (s.take i, s.drop (i + 1), true) := by
         conv => lhs; rw [hsp, h126]
         exact zn6 126 _ _ hall
       rw [hcut]
       dsimp only
       have hW : W64 ((i : Int) + 1) = ((i + 1 : Nat) : Int) := z9r (by omega)
       have hbt : Bs (s.take i) := fun x hx => hb x (List.mem_of_mem_take hx)
       have hbd : Bs (s.drop (i + 1)) := fun x hx => hb x (List.mem_of_mem_drop hx)
       have hsub : subL s 0 (i : Int) = s.take i := by simp [subL]
       rw [hW, zoj hb hl (i + 1) (by omega), hsub, zlm hbt (by rw [List.length_take]; omega)]
       simp only [Option.bind_some]
       generalize htd : s.drop (i + 1) = t at *
       have htl : t.length = s.length - (i + 1) := by rw [← htd, List.length_drop]
       have hget : ∀ k (hk : k < t.length), t[k]? = s[i + 1 + k]? := fun k hk => by rw [← htd, List.getElem?_drop]
       by_cases hcn : canon (t.takeWhile isD) = true
       · have hnum : numI t (i + 1) = ((i + 1 + (t.takeWhile isD).length : Nat) : Int) := by unfold numI; rw [if_pos hcn]
         rw [hnum]
         have hspl := zwj t
         have htwl : (t.takeWhile isD).length ≤ t.length := (List.takeWhile_prefix isD).length_le
         have htd2 : tagR t = false ∨ ∃ r, t = t.takeWhile isD ++ 46 :: r := by
           rcases hspl with he | ⟨y, r, he, hy⟩
           · exact .inl (zyc he)
           · by_cases h46 : y = 46
             · subst h46; exact .inr ⟨r, he⟩
             · exact .inl (zvs he hy h46)
         have hnext : ∀ (hk : i + 1 + (t.takeWhile isD).length < s.length), s[i + 1 + (t.takeWhile isD).length] = 46 → ∃ r, t = t.takeWhile isD ++ 46 :: r := fun hk hq => by
           rcases hspl with he | ⟨y, r, he, hy⟩
           · have : (t.takeWhile isD).length = t.length := by rw [← he]
             omega
           · have h1 := hget (t.takeWhile isD).length (by omega)
             have h2 : ∀ (d : List Int), t = d ++ y :: r → t[d.length]? = some y := fun d hd => by rw [hd, List.getElem?_append_right (Nat.le_refl _), Nat.sub_self]; rfl
             rw [h2 _ he, List.getElem?_eq_getElem hk, hq] at h1
             cases h1
             exact ⟨r, he⟩
         have hdot : ∀ r, t = t.takeWhile isD ++ 46 :: r → tagR t = canon r ∧ (∃ hk : i + 1 + (t.takeWhile isD).length < s.length, s[i + 1 + (t.takeWhile isD).length] = 46) ∧ s.drop (i + 1 + (t.takeWhile isD).length + 1) = r ∧ s.length = i + 1 + (t.takeWhile isD).length + 1 + r.length := fun r he => by
           have hlen := congrArg List.length he
           rw [List.length_append, List.length_cons] at hlen
           refine ⟨by rw [zyo he, hcn, Bool.true_and], ⟨by omega, ?_⟩, ?_, by omega⟩
           · have h1 := hget (t.takeWhile isD).length (by omega)
             have h2 : ∀ (d : List Int), t = d ++ 46 :: r → t[d.length]? = some 46 := fun d hd => by rw [hd, List.getElem?_append_right (Nat.le_refl _), Nat.sub_self]; rfl
             rw [h2 _ he, List.getElem?_eq_getElem (by omega)] at h1
             exact (Option.some.inj h1).symm
           · have h3 : ∀ (d : List Int), t = d ++ 46 :: r → t.drop (d.length + 1) = r := fun d hd => by
               rw [hd, List.drop_append, List.drop_eq_nil_of_le (by omega), List.nil_append, show d.length + 1 - d.length = 1 by omega]; rfl
             have := h3 _ he
             rw [← htd, List.drop_drop] at this
             rw [htd] at this
             rw [← this]; congr 1
         have hW2 : W64 (((i + 1 + (t.takeWhile isD).length : Nat) : Int) + 1) = ((i + 1 + (t.takeWhile isD).length + 1 : Nat) : Int) := z9r (by omega)
         rw [hW2]
         generalize (t.takeWhile isD).length = m at *
         repeat' first
           | (dsimp only [Int.toNat_natCast, List.length_nil])
           | with_reducible first | refine z1r ?_ | refine z2b ?_ | refine z0k ?_ | refine z2c ?_ | refine z1n ?_ | refine z3n ?_ | refine qs ?_ | refine qb ?_ | refine z3k ?_ | refine qw ?_ | refine z3o ?_ | refine z3p ?_ | refine qi ?_ | refine qg (h := ?_) | refine qx (h := ?_) | refine qy (h := ?_) | refine qa ?_ | refine qc ?_ | refine ql ?_ | refine qp ?_ | refine z1o ?_ | rfl
           | (with_reducible first | refine ok_lt ?_ ?_ | refine ok_le ?_ ?_ | refine z3m ?_ ?_ | refine z3j ?_ ?_ | refine z3l ?_ ?_ | refine qu ?_ ?_ | refine ok_if ?_ ?_) <;> intro _ <;> try (exfalso; omega)
         · rename_i hn _ hge
           rw [hn]
           rcases htd2 with h | ⟨r, h⟩
           · rw [h]; rfl
           · obtain ⟨_, ⟨hk, _⟩, _, _⟩ := hdot r h
             exfalso; omega
         · rename_i hn _ hlt h46
           obtain ⟨r, h⟩ := hnext (by omega) h46
           obtain ⟨g1, _, g3, g4⟩ := hdot r h
           rw [zoj hb hl (i + 1 + m + 1) (by omega), g3, g1, hn]
           have hend := zxv r (i + 1 + m + 1)
           rw [← g4] at hend
           repeat' first
             | (dsimp only [Int.toNat_natCast, List.length_nil])
             | with_reducible first | refine z1r ?_ | refine z2b ?_ | refine z0k ?_ | refine z2c ?_ | refine z1n ?_ | refine z3n ?_ | refine qs ?_ | refine qb ?_ | refine z3k ?_ | refine qw ?_ | refine z3o ?_ | refine z3p ?_ | refine qi ?_ | refine qg (h := ?_) | refine qx (h := ?_) | refine qy (h := ?_) | refine qa ?_ | refine qc ?_ | refine ql ?_ | refine qp ?_ | refine z1o ?_ | rfl
             | (with_reducible first | refine ok_lt ?_ ?_ | refine ok_le ?_ ?_ | refine z3m ?_ ?_ | refine z3j ?_ ?_ | refine z3l ?_ ?_ | refine qu ?_ ?_ | refine ok_if ?_ ?_) <;> intro _ <;> try (exfalso; omega)
           rw [hend]; rfl
         · rename_i hn _ hlt h46
           rw [hn]
           rcases htd2 with h | ⟨r, h⟩
           · rw [h]; rfl
           · obtain ⟨_, ⟨hk, hq⟩, _, _⟩ := hdot r h
             exact absurd hq h46
         · rename_i hn
           rw [hn]; rfl
       · have hcn : canon (t.takeWhile isD) = false := by simpa using hcn
         have hnum : numI t (i + 1) = -1 := by unfold numI; rw [hcn]; rfl
         rw [hnum, zyg hcn]
         repeat' first
           | (dsimp only [Int.toNat_natCast, List.length_nil])
           | with_reducible first | refine z1r ?_ | refine z2b ?_ | refine z0k ?_ | refine z2c ?_ | refine z1n ?_ | refine z3n ?_ | refine qs ?_ | refine qb ?_ | refine z3k ?_ | refine qw ?_ | refine z3o ?_ | refine z3p ?_ | refine qi ?_ | refine qg (h := ?_) | refine qx (h := ?_) | refine qy (h := ?_) | refine qa ?_ | refine qc ?_ | refine ql ?_ | refine qp ?_ | refine z1o ?_ | rfl
           | (with_reducible first | refine ok_lt ?_ ?_ | refine ok_le ?_ ?_ | refine z3m ?_ ?_ | refine z3j ?_ ?_ | refine z3l ?_ ?_ | refine qu ?_ ?_ | refine ok_if ?_ ?_) <;> intro _ <;> try (exfalso; omega)
         all_goals simp
     · have hall' : ∀ x, x ∈ s.take (i + 1) → x ≠ 126 := fun x hx => by
         rw [List.take_succ_eq_append_getElem hi, List.mem_append] at hx
         rcases hx with hx | hx
         · exact hall x hx
         · simp at hx; subst hx; exact h126
       repeat' first
         | (dsimp only [Int.toNat_natCast, List.length_nil])
         | with_reducible first | refine z1r ?_ | refine z2b ?_ | refine z0k ?_ | refine z2c ?_ | refine z1n ?_ | refine z3n ?_ | refine qs ?_ | refine qb ?_ | refine z3k ?_ | refine qw ?_ | refine z3o ?_ | refine z3p ?_ | refine qi ?_ | refine qg (h := ?_) | refine qx (h := ?_) | refine qy (h := ?_) | refine qa ?_ | refine qc ?_ | refine ql ?_ | refine qp ?_ | refine z1o ?_ | rfl
         | (with_reducible first | refine ok_lt ?_ ?_ | refine ok_le ?_ ?_ | refine z3m ?_ ?_ | refine z3j ?_ ?_ | refine z3l ?_ ?_ | refine qu ?_ ?_ | refine ok_if ?_ ?_) <;> intro _ <;> try (exfalso; omega)
       exact ⟨(), by rw [z6w (by omega)]; rfl, hall'⟩
end Go.Proofs.YtgpmclpgcmgajaaDoor
set_option maxRecDepth 100000
set_option linter.unusedVariables false
set_option linter.unusedSimpArgs false
namespace Go.Proofs.YtgpmclpgcmgajaaDoor
open Go.Tm Go.Ab Go.Lib
def z2t (c : Int) : List Int → List (List Int)
 | [] => [[]]
 | x :: l => if x = c then [] :: z2t c l else match z2t c l with
   | [] => [[x]]
   | p :: ps => (x :: p) :: ps
theorem zc6 (c : Int) : ∀ (s : List Int), (∀ x, x ∈ s → x ≠ c) → z2t c s = [s]
 | [], _ => rfl
 | x :: l, h => by rw [z2t, if_neg (h x (by simp)), zc6 c l fun y hy => h y (by simp [hy])]
theorem zd0 (c : Int) : ∀ (a b : List Int), (∀ x, x ∈ a → x ≠ c) → z2t c (a ++ c :: b) = a :: z2t c b
 | [], b, _ => by simp [z2t]
 | x :: a, b, h => by rw [List.cons_append, z2t, if_neg (h x (by simp)), zd0 c a b fun y hy => h y (by simp [hy])]
theorem zo4 (c : Int) : ∀ (n : Nat) (s : List Int), s.length ≤ n → Bs s → ∀ p, p ∈ z2t c s → Bs p ∧ p.length ≤ s.length
 | n, s, hn, hb, p, hp => by
   rcases z5y c s with ⟨h1, _⟩ | ⟨a, b, h1, h2, _⟩
   · rw [zc6 c s h1] at hp
     simp at hp; subst hp
     exact ⟨hb, Nat.le_refl _⟩
   · rw [h2, zd0 c a b h1] at hp
     have hl : s.length = a.length + (b.length + 1) := by rw [h2]; simp
     rcases List.mem_cons.1 hp with rfl | hp
     · exact ⟨fun x hx => hb x (by rw [h2]; simp [hx]), by omega⟩
     · match n, hn with
       | 0, hn => omega
       | n + 1, hn =>
         have := zo4 c n b (by omega) (fun x hx => hb x (by rw [h2]; simp [hx])) p hp
         exact ⟨this.1, by omega⟩
theorem zji {s : List Int} (hb : Bs s) : nums (s.map b8) = s := by
 unfold nums
 rw [List.map_map]
 conv => rhs; rw [← List.map_id s]
 exact List.map_congr_left fun x hx => zbg (hb x hx)
theorem zoh {c : Int} (hc : 0 ≤ c ∧ c < 256) : ∀ (n : Nat) (s : List Int), s.length ≤ n → Bs s → (splitK [b8 c] 0 ((s.map b8).count (b8 c)) (s.map b8)).map nums = z2t c s
 | n, s, hn, hb => by
   rcases z5y c s with ⟨h1, _⟩ | ⟨a, b, h1, h2, _⟩
   · have hcnt : (s.map b8).count (b8 c) = 0 := by
       rw [List.count_eq_zero]
       intro hm
       obtain ⟨x, hx, e⟩ := List.mem_map.1 hm
       exact h1 x hx (zj1 (hb x hx) hc e)
     rw [hcnt, zc6 c s h1]
     simp only [splitK, List.map_cons, List.map_nil]
     rw [zji hb]
   · have hba : Bs a := fun x hx => hb x (by rw [h2]; simp [hx])
     have hbb : Bs b := fun x hx => hb x (by rw [h2]; simp [hx])
     have hl : s.length = a.length + (b.length + 1) := by rw [h2]; simp
     have hca : (a.map b8).count (b8 c) = 0 := by
       rw [List.count_eq_zero]
       intro hm
       obtain ⟨x, hx, e⟩ := List.mem_map.1 hm
       exact h1 x hx (zj1 (hba x hx) hc e)
     have hcnt : (s.map b8).count (b8 c) = (b.map b8).count (b8 c) + 1 := by
       rw [h2, List.map_append, List.count_append, hca, List.map_cons, List.count_cons]
       simp
     have hi : index (s.map b8) [b8 c] = a.length := by
       rw [index_one, h2]
       exact zj5 hc a b hba h1
     have hne : (index (s.map b8) [b8 c] == -1) = false := by rw [hi, beq_eq_false_iff_ne]; omega
     rw [hcnt]
     conv => rhs; rw [h2]
     rw [zd0 c a b h1, splitK, hne, hi]
     have e1 : (s.map b8).take (((a.length : Nat) : Int).toNat + 0) = a.map b8 := by
       rw [h2, List.map_append, Int.toNat_natCast, Nat.add_zero]
       exact List.take_left' (by simp)
     have e2 : (s.map b8).drop (((a.length : Nat) : Int).toNat + [b8 c].length) = b.map b8 := by
       rw [h2, List.map_append, List.map_cons, Int.toNat_natCast, List.length_singleton, List.drop_append, List.drop_eq_nil_of_le (by simp), List.nil_append]
       simp
     simp only [Bool.false_eq_true, if_false]
     rw [e1, e2, List.map_cons, zji hba]
     match n, hn with
     | 0, hn => omega
     | n + 1, hn => rw [zoh hc n b (by omega) hbb]
theorem zv8 {c : Int} (hc : 0 ≤ c ∧ c < 256) {s : List Int} (hb : Bs s) : zcj c s = z2t c s := by
 rw [← zoh hc s.length s (Nat.le_refl _) hb]
 unfold zcj
 have e0 : (ba s).data.toList = s.map b8 := zdw s
 have e1 : countB (ba s) ⟨#[c.toNat.toUInt8]⟩ = (s.map b8).count (b8 c) := by
   have : countB (ba s) ⟨#[c.toNat.toUInt8]⟩ = count (ba s).data.toList [b8 c] := rfl
   rw [this, count_one, e0]
 rw [e1, show (fun b : ByteArray => nums b.data.toList) = nums ∘ (fun b : ByteArray => b.data.toList) from rfl, ← List.map_map]
 congr 1
 have := splitB_data ⟨#[c.toNat.toUInt8]⟩ 0 ((s.map b8).count (b8 c)) (ba s)
 rw [e0] at this
 exact this
theorem zli (c : Int) : ∀ (s : List Int), (z2t c s).length ≤ s.length + 1
 | [] => Nat.le_refl _
 | x :: l => by
   have := zli c l
   rw [z2t]
   split
   · simp; omega
   · split <;> simp_all
     omega
def z6u (s : List Int) : List (List Int) × Int :=
 if 120 < s.length ∨ s.head? ≠ some 47 then ([], 20)
 else if s = [47] then ([], 0)
 else if 10 < (z2t 47 s.tail).length ∨ (z2t 47 s.tail).all partI = false then ([], 20)
 else (z2t 47 s.tail, 0)
theorem zuu {s : List Int} (hl : s.length ≤ 1000) : z6s s [47] = some (decide (s.head? = some 47)) := by
 unfold z6s z3u
 cases s with
 | nil => rfl
 | cons x l =>
   have hlen : (x :: l).length = l.length + 1 := rfl
   rw [z7p (by omega), z7p (by simp), leI_t (by simp; omega), cond_true, z7p (by simp), zif (by simp; omega)]
   have : subL (x :: l) 0 ((([47] : List Int).length : Nat) : Int) = [x] := by simp [subL]
   rw [this]
   simp only [cond_true, Option.bind_some, Option.some.injEq]
   rw [Bool.eq_iff_iff, decide_eq_true_eq, decide_eq_true_eq]
   simp
theorem zeb {s : List Int} (hb : Bs s) (hl : s.length ≤ 1000) : z3s s = some (z6u s) := by
 refine ok_is ?_
 unfold z3s z6u
 rw [zuu hl]
 repeat' first
   | (dsimp only [Int.toNat_natCast, List.length_nil])
   | with_reducible first | refine z1r ?_ | refine z2b ?_ | refine z0k ?_ | refine z2c ?_ | refine z1n ?_ | refine z3n ?_ | refine qs ?_ | refine qb ?_ | refine z3k ?_ | refine qw ?_ | refine z3o ?_ | refine z3p ?_ | refine qi ?_ | refine qg (h := ?_) | refine qx (h := ?_) | refine qy (h := ?_) | refine qa ?_ | refine qc ?_ | refine ql ?_ | refine qp ?_ | refine z1o ?_ | rfl
   | (with_reducible first | refine ok_lt ?_ ?_ | refine ok_le ?_ ?_ | refine z3m ?_ ?_ | refine z3j ?_ ?_ | refine z3l ?_ ?_ | refine qu ?_ ?_ | refine ok_if ?_ ?_) <;> intro _ <;> try (exfalso; omega)
 · rw [if_pos (.inl (by omega))]
 · rename_i h0 h1 h2
   have h1 := of_decide_eq_true h1
   rw [if_neg (by rintro (h | h); omega; exact h h1), if_pos h2]
 · rename_i h0 h1 h2 _
   have h1 := of_decide_eq_true h1
   rw [if_neg (by rintro (h | h); omega; exact h h1), if_neg h2]
   have htl : subL s 1 (s.length : Int) = s.tail := by
     simp [subL, List.take_of_length_le]
   have hbt : Bs s.tail := fun x hx => hb x (List.mem_of_mem_tail hx)
   have hS : zat (subL s 1 (s.length : Int)) [47] = some (z2t 47 s.tail) := by
     rw [htl]
     unfold zat
     dsimp only
     rw [ble_t (by rw [List.length_tail]; omega), zv8 (by decide) hbt]; rfl
   rw [hS]
   have hpl : ∀ p, p ∈ z2t 47 s.tail → Bs p ∧ p.length ≤ s.tail.length := zo4 47 _ _ (Nat.le_refl _) hbt
   have hlen := zli 47 s.tail
   have hlt : s.tail.length ≤ 1000 := by rw [List.length_tail]; omega
   generalize z2t 47 s.tail = l at *
   repeat' first
     | (dsimp only [Int.toNat_natCast, List.length_nil])
     | with_reducible first | refine z1r ?_ | refine z2b ?_ | refine z0k ?_ | refine z2c ?_ | refine z1n ?_ | refine z3n ?_ | refine qs ?_ | refine qb ?_ | refine z3k ?_ | refine qw ?_ | refine z3o ?_ | refine z3p ?_ | refine qi ?_ | refine qg (h := ?_) | refine qx (h := ?_) | refine qy (h := ?_) | refine qa ?_ | refine qc ?_ | refine ql ?_ | refine qp ?_ | refine z1o ?_ | rfl
     | (with_reducible first | refine ok_lt ?_ ?_ | refine ok_le ?_ ?_ | refine z3m ?_ ?_ | refine z3j ?_ ?_ | refine z3l ?_ ?_ | refine qu ?_ ?_ | refine ok_if ?_ ?_) <;> intro _ <;> try (exfalso; omega)
   · rw [if_pos (.inl (by omega))]
   · rename_i h4
     have hloop : loopC z0m (l, l, (l.length : Int), 0) = some (if (l.any fun x => !partI x) = true then .inr ([], 20) else .inl l) := by
       refine znw _ l (fun i => (l, l, (l.length : Int), (i : Int))) (fun x => !partI x) _ _ ?_ fun i hi => ?_
       · unfold z0m z4b
         dsimp only
         rw [ltI_f (by omega)]; rfl
       · unfold z0m z4b
         dsimp only
         obtain ⟨b1, b2⟩ := hpl l[i] (List.getElem_mem hi)
         rw [ltI_t (by omega), cond_true, ze0 hi]
         simp only [Option.bind_some]
         rw [zyw b1 (by omega)]
         simp only [Option.bind_some]
         rw [z9r (by omega)]
         cases partI l[i] <;> rfl
     rw [hloop]
     have hany : (l.any fun x => !partI x) = !(l.all partI) := by rw [List.not_all_eq_any_not]
     rw [hany]
     cases hall : l.all partI with
     | true =>
       refine z0k (z0k ?_)
       rw [if_neg (by simp; omega)]
     | false =>
       refine z0k (z0k ?_)
       rw [if_pos (Or.inr rfl)]
 · rename_i h0 h1 h2 h3
   exfalso
   have h1 := of_decide_eq_true h1
   have hpos : 1 ≤ s.length := by
     cases s with
     | nil => simp at h1
     | cons x l => simp
   rw [zif (by omega)] at h3
   cases h3
 · rename_i h0 h1
   have h1 := of_decide_eq_false h1
   rw [if_pos (.inr h1)]
end Go.Proofs.YtgpmclpgcmgajaaDoor
set_option maxRecDepth 100000
set_option linter.unusedVariables false
set_option linter.unusedSimpArgs false
namespace Go.Proofs.YtgpmclpgcmgajaaDoor
open Go.Tm Go.Ab Go.Lib
def diff (a b : List (List Int)) (n : Nat) : Bool := (List.range n).any fun i => !decide (a[i]? = b[i]?)
theorem zcz {a b : List (List Int)} {n : Nat} : diff a b n = false ↔ ∀ i, i < n → a[i]? = b[i]? := by
 unfold diff
 rw [List.any_eq_false]
 constructor
 · intro h i hi
   have := h i (List.mem_range.2 hi)
   simpa using this
 · intro h i hi
   simp [h i (List.mem_range.1 hi)]
theorem zyr {a b : List (List Int)} (hl : a.length = b.length) : diff a b a.length = !decide (a = b) := by
 by_cases h : a = b
 · subst h
   rw [decide_eq_true rfl, zcz.2 fun _ _ => rfl]; rfl
 · rw [decide_eq_false h]
   cases hd : diff a b a.length with
   | true => rfl
   | false =>
     exfalso
     apply h
     rw [zcz] at hd
     apply List.ext_getElem? 
     intro i
     by_cases hi : i < a.length
     · exact hd i hi
     · rw [List.getElem?_eq_none (by omega), List.getElem?_eq_none (by omega)]
theorem zgo {a b : List (List Int)} : b.isPrefixOf a = true ↔ b.length ≤ a.length ∧ ∀ i, i < b.length → a[i]? = b[i]? := by
 rw [List.isPrefixOf_iff_prefix]
 constructor
 · rintro ⟨t, rfl⟩
   exact ⟨by simp, fun i hi => by rw [List.getElem?_append_left hi]⟩
 · rintro ⟨h1, h2⟩
   refine ⟨a.drop b.length, ?_⟩
   conv => rhs; rw [← List.take_append_drop b.length a]
   congr 1
   apply List.ext_getElem?
   intro i
   rw [List.getElem?_take]
   split
   · rename_i hi; exact (h2 i hi).symm
   · rename_i hi; exact List.getElem?_eq_none (by omega)
theorem zre {a b : List (List Int)} (hl : b.length ≤ a.length) : diff a b b.length = !b.isPrefixOf a := by
 cases hd : diff a b b.length with
 | false =>
   have := zgo.2 ⟨hl, zcz.1 hd⟩
   rw [this]; rfl
 | true =>
   cases hp : b.isPrefixOf a with
   | false => rfl
   | true =>
     have := zcz.2 (zgo.1 hp).2
     rw [this] at hd; cases hd
theorem zyx {a b : List (List Int)} (ha : a.length ≤ 1000000) (hb : b.length ≤ 1000000) : zb0 a b = some (decide (a = b)) := by
 refine ok_is ?_
 unfold zb0
 repeat' first
   | (dsimp only [Int.toNat_natCast, List.length_nil])
   | with_reducible first | refine z1r ?_ | refine z2b ?_ | refine z0k ?_ | refine z2c ?_ | refine z1n ?_ | refine z3n ?_ | refine qs ?_ | refine qb ?_ | refine z3k ?_ | refine qw ?_ | refine z3o ?_ | refine z3p ?_ | refine qi ?_ | refine qg (h := ?_) | refine qx (h := ?_) | refine qy (h := ?_) | refine qa ?_ | refine qc ?_ | refine ql ?_ | refine qp ?_ | refine z1o ?_ | rfl
   | (with_reducible first | refine ok_lt ?_ ?_ | refine ok_le ?_ ?_ | refine z3m ?_ ?_ | refine z3j ?_ ?_ | refine z3l ?_ ?_ | refine qu ?_ ?_ | refine ok_if ?_ ?_) <;> intro _ <;> try (exfalso; omega)
 · rename_i h
   have hl : a.length = b.length := by omega
   have hloop : loopC z0v (a, b, (a.length : Int), 0) = some (if diff a b a.length = true then .inr false else .inl ()) := by
     refine zkm _ a.length (fun i => (a, b, (a.length : Int), (i : Int))) (fun i => !decide (a[i]? = b[i]?)) _ _ ?_ fun i hi => ?_
     · unfold z0v z6l
       dsimp only
       rw [ltI_f (by omega)]; rfl
     · unfold z0v z6l
       dsimp only
       rw [ltI_t (by omega), cond_true, ze0 hi, ze0 (show i < b.length by omega), z9r (by omega)]
       simp only [Option.bind_some]
       rw [getE hi, getE (show i < b.length by omega)]
       by_cases e : a[i] = b[i]
       · rw [eqS_t e, decide_eq_true (by rw [e])]; rfl
       · rw [eqS_f e, decide_eq_false (fun h => e (Option.some.inj h))]; rfl
   rw [hloop, zyr hl]
   by_cases e : a = b
   · rw [decide_eq_true e]; exact z0k (z0k rfl)
   · rw [decide_eq_false e]; exact z0k (z0k rfl)
 · rename_i h
   exact (decide_eq_false fun e => h (by rw [e])).symm
def zmx (s top : List Int) : Bool := decide ((z6u s).2 = 0) && decide ((z6u top).2 = 0) && (z6u top).1.isPrefixOf (z6u s).1
theorem znp (s : List Int) : (z6u s).1.length ≤ 10 := by
 unfold z6u
 split
 · exact Nat.zero_le _
 · split
   · exact Nat.zero_le _
   · split
     · exact Nat.zero_le _
     · rename_i h; simp only [not_or] at h; exact Nat.le_of_not_lt h.1
theorem zua {s top : List Int} (hs : Bs s) (ht : Bs top) (ls : s.length ≤ 1000) (lt : top.length ≤ 1000) : zc8 s top = some (zmx s top) := by
 refine ok_is ?_
 unfold zc8 zmx
 rw [zeb hs ls, zeb ht lt]
 have l1 := znp s
 have l2 := znp top
 generalize z6u s = A at *
 generalize z6u top = B at *
 repeat' first
   | (dsimp only [Int.toNat_natCast, List.length_nil])
   | with_reducible first | refine z1r ?_ | refine z2b ?_ | refine z0k ?_ | refine z2c ?_ | refine z1n ?_ | refine z3n ?_ | refine qs ?_ | refine qb ?_ | refine z3k ?_ | refine qw ?_ | refine z3o ?_ | refine z3p ?_ | refine qi ?_ | refine qg (h := ?_) | refine qx (h := ?_) | refine qy (h := ?_) | refine qa ?_ | refine qc ?_ | refine ql ?_ | refine qp ?_ | refine z1o ?_ | rfl
   | (with_reducible first | refine ok_lt ?_ ?_ | refine ok_le ?_ ?_ | refine z3m ?_ ?_ | refine z3j ?_ ?_ | refine z3l ?_ ?_ | refine qu ?_ ?_ | refine ok_if ?_ ?_) <;> intro _ <;> try (exfalso; omega)
 · rename_i h1 h2 h3
   rw [h1, h2]
   have : B.1.isPrefixOf A.1 = false := by
     cases hp : B.1.isPrefixOf A.1 with
     | false => rfl
     | true => have := (zgo.1 hp).1; omega
   rw [this]; rfl
 · rename_i h1 h2 h3
   rw [h1, h2]
   have hle : B.1.length ≤ A.1.length := by omega
   have hloop : loopC z0n (A.1, B.1, (B.1.length : Int), 0) = some (if diff A.1 B.1 B.1.length = true then .inr false else .inl ()) := by
     refine zkm _ B.1.length (fun i => (A.1, B.1, (B.1.length : Int), (i : Int))) (fun i => !decide (A.1[i]? = B.1[i]?)) _ _ ?_ fun i hi => ?_
     · unfold z0n z4f
       dsimp only
       rw [ltI_f (by omega)]; rfl
     · unfold z0n z4f
       dsimp only
       rw [ltI_t (by omega), cond_true, ze0 hi, ze0 (show i < A.1.length by omega), z9r (by omega)]
       simp only [Option.bind_some]
       rw [getE hi, getE (show i < A.1.length by omega)]
       by_cases e : A.1[i] = B.1[i]
       · rw [eqS_t e, decide_eq_true (by rw [e])]; rfl
       · rw [eqS_f e, decide_eq_false (fun h => e (Option.some.inj h))]; rfl
   rw [hloop, zre hle]
   cases B.1.isPrefixOf A.1 <;> exact z0k (z0k rfl)
 · rename_i h1 h2; rw [h1, decide_eq_false h2]; rfl
 · rename_i h; rw [decide_eq_false h]; rfl
def ziw (l : List (List Int)) : Bool := decide (l.length ≤ 40) && l.all fun s => decide (s.length ≤ 200)
theorem zxj {l : List (List Int)} (h1 : l.length ≤ maxLen) (h2 : ∀ s, s ∈ l → s.length ≤ maxLen) : z9w l = some (ziw l) := by
 unfold maxLen at h1 h2
 refine ok_is ?_
 unfold z9w ziw
 repeat' first
   | (dsimp only [Int.toNat_natCast, List.length_nil])
   | with_reducible first | refine z1r ?_ | refine z2b ?_ | refine z0k ?_ | refine z2c ?_ | refine z1n ?_ | refine z3n ?_ | refine qs ?_ | refine qb ?_ | refine z3k ?_ | refine qw ?_ | refine z3o ?_ | refine z3p ?_ | refine qi ?_ | refine qg (h := ?_) | refine qx (h := ?_) | refine qy (h := ?_) | refine qa ?_ | refine qc ?_ | refine ql ?_ | refine qp ?_ | refine z1o ?_ | rfl
   | (with_reducible first | refine ok_lt ?_ ?_ | refine ok_le ?_ ?_ | refine z3m ?_ ?_ | refine z3j ?_ ?_ | refine z3l ?_ ?_ | refine qu ?_ ?_ | refine ok_if ?_ ?_) <;> intro _ <;> try (exfalso; omega)
 · rw [decide_eq_false (by omega)]; rfl
 · rw [decide_eq_true (by omega)]
   have hloop : loopC z0r (l, (l.length : Int), 0) = some (if (l.any fun s => !decide (s.length ≤ 200)) = true then .inr false else .inl ()) := by
     refine znw _ l (fun i => (l, (l.length : Int), (i : Int))) (fun s => !decide (s.length ≤ 200)) _ _ ?_ fun i hi => ?_
     · unfold z0r z5h
       dsimp only
       rw [ltI_f (by omega)]; rfl
     · unfold z0r z5h
       dsimp only
       have := h2 l[i] (List.getElem_mem hi)
       rw [ltI_t (by omega), cond_true, ze0 hi, z9r (by omega)]
       simp only [Option.bind_some]
       rw [z7p (by omega)]
       by_cases e : l[i].length ≤ 200
       · rw [ltI_f (by omega), decide_eq_true e]; rfl
       · rw [ltI_t (by omega), decide_eq_false e]; rfl
   have hany : (l.any fun s => !decide (s.length ≤ 200)) = !(l.all fun s => decide (s.length ≤ 200)) := by rw [List.not_all_eq_any_not]
   rw [hloop, hany]
   cases (l.all fun s => decide (s.length ≤ 200)) <;> exact z0k (z0k rfl)
end Go.Proofs.YtgpmclpgcmgajaaDoor