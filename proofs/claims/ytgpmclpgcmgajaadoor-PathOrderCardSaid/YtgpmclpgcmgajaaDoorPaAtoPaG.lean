import Derived.Test.YtgpmclpgcmgajaaDoorTm21to25
import Derived.Test.YtgpmclpgcmgajaaDoorTm26to28
import Derived.Test.YtgpmclpgcmgajaaDoorPaW5toPaB
import Derived.Test.YtgpmclpgcmgajaaDoorProg
set_option maxRecDepth 100000
set_option linter.unusedVariables false
noncomputable section
namespace Go.Proofs.YtgpmclpgcmgajaaDoor
open Go.Tm Go.Ab
def c0 : U := (.st (.cons (.int .i64) (.one (.int .u32))))
def z7z : Env := ⟨[], [], []⟩
theorem z7d : EnvsOK Tryd.prog z7z := ⟨z3n _, z2t _, z2n _⟩
def z3f : Shp := ⟨1, 0, [(0, .d .bool)], []⟩
def z3s : XS := .one .ret z3f.xe
theorem z6v : z3s.OK := XS.one_ok (z1l z3f)
def z2i (t0 : List Int) (t1 : List Int) : Option ((Bool)) :=
 z0l (List.length t0) (
 z0l (List.length t1) (
 bif leI (List.length t1 : Nat) (List.length t0 : Nat) then
 z0l (List.length t1) (
 bif subOk 0 (List.length t1 : Nat) (List.length t0) then
 some (eqS (subL t0 0 (List.length t1 : Nat)) t1)
 else none)
 else
 some false))
def z3o : Sig := ⟨32, [.d .str, .d .str], [], 0, z3s⟩
def z3j (x : (List Int) × (List Int)) : Option ((Bool)) := z2i x.1 x.2
theorem z7h : FnOK Tryd.prog z3o z3j :=
 fn_ok z7d (h := .no) Tryd.func32 (z3d [] (by kernel_rfl) trivial) (by kernel_rfl) z6v (fun x => by kernel_rfl)
def zex : Env := ⟨[(entQ z3o z3j)], [], []⟩
theorem zcy : EnvsOK Tryd.prog zex := ⟨z0y (z1o z7h) (z3n _), z2t _, z2n _⟩
def z8e : Shp := ⟨1, 0, [(0, .d .bool)], []⟩
def z9k : XS := .one .ret z8e.xe
theorem zco : z9k.OK := XS.one_ok (z1l z8e)
def z4v (t0 : List Int) (t1 : List Int) : Option ((Bool)) :=
 (z2i t0 t1).bind fun r =>
 some r
def z9h : Sig := ⟨22, [.d .str, .d .str], [], 0, z9k⟩
def z8t (x : (List Int) × (List Int)) : Option ((Bool)) := z4v x.1 x.2
theorem zdx : FnOK Tryd.prog z9h z8t :=
 fn_ok zcy (h := .no) Tryd.func22 (z3d [] (by kernel_rfl) trivial) (by kernel_rfl) zco (fun x => by kernel_rfl)
def z2v : Ent := zid 80
theorem z6d : EntOK Tryd.prog z2v := znz Tryd.func80 (by kernel_rfl) (by kernel_rfl) (by kernel_rfl) (by kernel_rfl)
def z7y : Env := ⟨[z2v], [], []⟩
theorem z7e : EnvsOK Tryd.prog z7y := ⟨z0y z6d (z3n _), z2t _, z2n _⟩
def z3e : Shp := ⟨1, 0, [(0, .d (.int .i64))], []⟩
def z3q : XS := .one .ret z3e.xe
theorem z7b : z3q.OK := XS.one_ok (z1l z3e)
def z1g (t0 : List Int) (c : Int) : Option ((Int)) :=
 z0l (List.length t0) (
 some (zde t0 c))
def z3t : Sig := ⟨60, [.d .str, .d (.int .u8)], [], 0, z3q⟩
def z3i (x : (List Int) × Int) : Option ((Int)) := z1g x.1 x.2
theorem z7k : FnOK Tryd.prog z3t z3i :=
 fn_ok z7e (h := .no) Tryd.func60 (z3d [] (by kernel_rfl) trivial) (by kernel_rfl) z7b (fun x => by kernel_rfl)
def z9w : Env := ⟨[(entQ z3t z3i)], [], []⟩
theorem z8q : EnvsOK Tryd.prog z9w := ⟨z0y (z1o z7k) (z3n _), z2t _, z2n _⟩
def z2u : Shp := ⟨143, 0, [(0, .d .str), (1, .d .str), (5, .d (.int .i64)), (16, .d .bool)], []⟩
def z1p : XS := .one .normal z2u.xe
theorem z6c : z1p.OK := XS.one_ok (z1l z2u)
def z4c : Shp := ⟨1, 0, [(0, .d (.int .i64))], []⟩
def z4z : XS := .one .ret z4c.xe
theorem z8j : z4z.OK := XS.one_ok (z1l z4c)
def z2c (t0 : List Int) (substr : List Int) : Option ((Int)) :=
 z0l (List.length substr) (
 (show Option (((List Int) × (List Int) × Int × Bool)) from
 bif eqI (List.length substr : Nat) 0 then
 some (t0, substr, (List.length substr : Nat), true)
 else
 some (t0, substr, (List.length substr : Nat), eqS substr t0)).bind fun j =>
 bif j.2.2.2 then
 some 0
 else
 bif eqI j.2.2.1 1 then
 (idxI j.2.1 0).bind fun x =>
 (z1g j.1 x).bind fun r =>
 some r
 else
 z0l (List.length j.1) (
 bif leI (List.length j.1 : Nat) j.2.2.1 then
 some (-1)
 else
 none))
def z5b : Sig := ⟨46, [.d .str, .d .str], [], 0, z4z⟩
def z4s (x : (List Int) × (List Int)) : Option ((Int)) := z2c x.1 x.2
theorem z9f : FnOK Tryd.prog z5b z4s :=
 fn_ok z8q (h := (.two .no (.two .no (.two (.join (fun _ => z1p) .no .no) .no)))) Tryd.func46 (z3d [.xs (fun _ => z1p)] (by kernel_rfl) ⟨(zv9 z6c), trivial⟩) (by kernel_rfl) z8j (fun x => by kernel_rfl)
def zal : Env := ⟨[(entQ z5b z4s)], [], []⟩
theorem z9u : EnvsOK Tryd.prog zal := ⟨z0y (z1o z9f) (z3n _), z2t _, z2n _⟩
def z5g : Shp := ⟨1, 0, [(0, .tu [.d .str, .d .str, .d .bool])], []⟩
def z5z : XS := .one .ret z5g.xe
theorem z9g : z5z.OK := XS.one_ok (z1l z5g)
def z2h (t0 : List Int) (sep : List Int) : Option (((List Int) × (List Int) × Bool)) :=
 (z2c t0 sep).bind fun r =>
 bif leI 0 r then
 bif subOk 0 r (List.length t0) then
 z0l (List.length sep) (
 bif subOk (W64 (r + (List.length sep : Nat))) (List.length t0 : Nat) (List.length t0) then
 some ((subL t0 0 r, subL t0 (W64 (r + (List.length sep : Nat))) (List.length t0 : Nat), true))
 else none)
 else none
 else
 some (t0, ([] : List Int), false)
def z5y : Sig := ⟨34, [.d .str, .d .str], [], 0, z5z⟩
def z5i (x : (List Int) × (List Int)) : Option (((List Int) × (List Int) × Bool)) := z2h x.1 x.2
theorem zae : FnOK Tryd.prog z5y z5i :=
 fn_ok z9u (h := .no) Tryd.func34 (z3d [] (by kernel_rfl) trivial) (by kernel_rfl) z9g (fun x => by kernel_rfl)
def zlm : Env := ⟨[(entQ z5y z5i)], [], []⟩
theorem ziq : EnvsOK Tryd.prog zlm := ⟨z0y (z1o zae) (z3n _), z2t _, z2n _⟩
def zc4 : Shp := ⟨1, 0, [(0, .tu [.d .str, .d .str, .d .bool])], []⟩
def zek : XS := .one .ret zc4.xe
theorem zia : zek.OK := XS.one_ok (z1l zc4)
def z7j (t0 : List Int) (sep : List Int) : Option (((List Int) × (List Int) × Bool)) :=
 (z2h t0 sep).bind fun r =>
 some (r.1, r.2.1, r.2.2)
def zer : Sig := ⟨24, [.d .str, .d .str], [], 0, zek⟩
def zd5 (x : (List Int) × (List Int)) : Option (((List Int) × (List Int) × Bool)) := z7j x.1 x.2
theorem zk7 : FnOK Tryd.prog zer zd5 :=
 fn_ok ziq (h := .no) Tryd.func24 (z3d [] (by kernel_rfl) trivial) (by kernel_rfl) zia (fun x => by kernel_rfl)
def zoj : Env := ⟨[(entQ zer zd5), (entQ zjl zhb), (entQ zg6 zei)], [], []⟩
theorem zlp : EnvsOK Tryd.prog zoj := ⟨z0y (z1o zk7) (z0y (z1o zo6) (z0y (z1o zli) (z3n _))), z2t _, z2n _⟩
def zej : Shp := ⟨1, 0, [(0, .d .bool)], []⟩
def zh2 : XS := .one .ret zej.xe
theorem zjs : zh2.OK := XS.one_ok (z1l zej)
def zc5 (t0 : List Int) : Option ((Bool)) :=
 bif eqS t0 ([108, 111, 115, 116, 43, 102, 111, 117, 110, 100] : List Int) then
 some true
 else
 (z7j t0 ([126] : List Int)).bind fun r =>
 (zef r.1).bind fun r2 =>
 bif !r2 then
 some false
 else
 (z7j r.2.1 ([46] : List Int)).bind fun r3 =>
 bif !r.2.2 then
 some true
 else
 bif r3.2.2 then
 (z8l r3.1).bind fun r4 =>
 bif r4 then
 (z8l r3.2.1).bind fun r5 =>
 some r5
 else
 some false
 else
 some false
def zhd : Sig := ⟨13, [.d .str], [], 0, zh2⟩
def zf0 (x : (List Int)) : Option ((Bool)) := zc5 x
theorem znr : FnOK Tryd.prog zhd zf0 :=
 fn_ok zlp (h := .no) Tryd.func13 (z3d [] (by kernel_rfl) trivial) (by kernel_rfl) zjs (fun x => by kernel_rfl)
def zmt : Env := ⟨[(entQ z9h z8t), (entQ zh7 zg2), (entQ zhd zf0)], [], []⟩
theorem zdj : EnvsOK Tryd.prog zmt := ⟨z0y (z1o zdx) (z0y (z1o zmn) (z0y (z1o znr) (z3n _))), z2t _, z2n _⟩
def z4d : Shp := ⟨34, 0, [(4, .d (.sl .str))], []⟩
def z4i : Shp := ⟨34, 0, [(2, .d (.sl .str)), (3, .d (.int .i64))], []⟩
def z0z : XS := .or (.exit 0) z4d.xe (.one .ret z4i.xe)
theorem z8i : z0z.OK := XS.or_ok (z1l z4d) (XS.one_ok (z1l z4i))
def z0w : Shp := ⟨34, 0, [(4, .d (.sl .str)), (23, .d (.sl .str)), (24, .d (.int .i64)), (25, .d (.int .i64))], []⟩
abbrev z2p := (List (List Int)) × (List (List Int)) × Int × Int
abbrev z5c := ((List (List Int))) ⊕ ((List (List Int)) × Int)
def z2r (l : List (List Int)) (t23 : List (List Int)) (t24 : Int) (t25 : Int) : Option (z2p ⊕ z5c) :=
 bif ltI t25 t24 then
 (idxI t23 t25).bind fun x =>
 (zc5 x).bind fun r =>
 bif !r then
 some (.inr (.inr ([], 20)))
 else
 some (.inl (l, t23, t24, W64 (t25 + 1)))
 else
 some (.inr (.inl l))
def z0i (s : z2p) : Option (z2p ⊕ z5c) := z2r s.1 s.2.1 s.2.2.1 s.2.2.2
theorem z9d : SoundD Tryd.prog (.loop (subC (bodyC Tryd.f10) [1, 1, 1, 1, 1, 0, 1, 0, 0])) (loopD z0w.xe z0z (loopC z0i)) :=
 ze7 (S := z0w.xe) (X := z0z) zdj (h := .no) (z3d [] (by kernel_rfl) trivial) (z1l z0w) z8i z0i (fun s => by kernel_rfl)
def zcv : Shp := ⟨1, 0, [(0, .tu [.d (.sl .str), .d (.int .i64)])], []⟩
def zgg : XS := .one .ret zcv.xe
theorem ziu : zgg.OK := XS.one_ok (z1l zcv)
def z4f (t0 : List Int) : Option (((List (List Int)) × Int)) :=
 z0l (List.length t0) (
 bif ltI 120 (List.length t0 : Nat) then
 some ([], 20)
 else
 (z4v t0 ([47] : List Int)).bind fun r =>
 bif !r then
 some ([], 20)
 else
 bif eqS t0 ([47] : List Int) then
 some ([], 0)
 else
 bif subOk 1 (List.length t0 : Nat) (List.length t0) then
 (z8g (subL t0 1 (List.length t0 : Nat)) ([47] : List Int)).bind fun r2 =>
 z0l (List.length r2) (
 bif ltI 10 (List.length r2 : Nat) then
 some ([], 20)
 else
 z0l (List.length r2) (
 (loopC z0i (r2, r2, (List.length r2 : Nat), 0)).bind fun o =>
 Sum.elim (fun y =>
 some (y, 0)) (fun y2 =>
 some (y2.1, y2.2)) o))
 else none)
def z9b : Sig := ⟨10, [.d .str], [], 0, zgg⟩
def z7q (x : (List Int)) : Option (((List (List Int)) × Int)) := z4f x
theorem zak : FnOK Tryd.prog z9b z7q :=
 fn_ok zdj (h := (.two .no (.two .no (.two .no (.two .no (.two .no (.two (.two .no (.over (loopD z0w.xe z0z (loopC z0i)))) .no))))))) Tryd.func10 (z3d [.den (.loop (subC (bodyC Tryd.f10) [1, 1, 1, 1, 1, 0, 1, 0, 0])) (loopD z0w.xe z0z (loopC z0i))] (by kernel_rfl) ⟨z9d, trivial⟩) (by kernel_rfl) ziu (fun x => by kernel_rfl)
def zol : Env := ⟨[(entQ zij zh3)], [], []⟩
theorem zlq : EnvsOK Tryd.prog zol := ⟨z0y (z1o zop) (z3n _), z2t _, z2n _⟩
def zen : Shp := ⟨1, 0, [(0, .d .str)], []⟩
def zh1 : XS := .one .ret zen.xe
theorem zjt : zh1.OK := XS.one_ok (z1l zen)
def za8 (l : List (List Int)) : Option (((List Int))) :=
 (zhr l ([47] : List Int)).bind fun r =>
 catG ([47] : List Int) r fun _ =>
 some (([47] : List Int) ++ r)
def zhm : Sig := ⟨15, [.d (.sl .str)], [], 0, zh1⟩
def zfq (x : (List (List Int))) : Option (((List Int))) := za8 x
theorem znc : FnOK Tryd.prog zhm zfq :=
 fn_ok zlq (h := .no) Tryd.func15 (z3d [] (by kernel_rfl) trivial) (by kernel_rfl) zjt (fun x => by kernel_rfl)
def zlo : Env := ⟨[(entQ z9b z7q)], [], []⟩
theorem zc3 : EnvsOK Tryd.prog zlo := ⟨z0y (z1o zak) (z3n _), z2t _, z2n _⟩
def z4u : Shp := ⟨48, 0, [], []⟩
def z4t : Shp := ⟨48, 0, [(4, .d .bool)], []⟩
def z1c : XS := .or (.exit 0) z4u.xe (.one .ret z4t.xe)
theorem z8r : z1c.OK := XS.or_ok (z1l z4u) (XS.one_ok (z1l z4t))
def z1b : Shp := ⟨48, 0, [(5, .d (.sl .str)), (34, .d (.sl .str)), (35, .d (.int .i64)), (36, .d (.int .i64))], []⟩
abbrev z2y := (List (List Int)) × (List (List Int)) × Int × Int
abbrev z5j := (Unit) ⊕ (Bool)
def z2z (a : List (List Int)) (t34 : List (List Int)) (t35 : Int) (t36 : Int) : Option (z2y ⊕ z5j) :=
 bif ltI t36 t35 then
 (idxI t34 t36).bind fun x =>
 (idxI a t36).bind fun x2 =>
 bif !(eqS x2 x) then
 some (.inr (.inr false))
 else
 some (.inl (a, t34, t35, W64 (t36 + 1)))
 else
 some (.inr (.inl ()))
def z0j (s : z2y) : Option (z2y ⊕ z5j) := z2z s.1 s.2.1 s.2.2.1 s.2.2.2
theorem z9e : SoundD Tryd.prog (.loop (subC (bodyC Tryd.f17) [1, 1, 1, 1, 0, 1, 0, 0])) (loopD z1b.xe z1c (loopC z0j)) :=
 ze7 (S := z1b.xe) (X := z1c) zc3 (h := .no) (z3d [] (by kernel_rfl) trivial) (z1l z1b) z8r z0j (fun s => by kernel_rfl)
def zce : Shp := ⟨1, 0, [(0, .d .bool)], []⟩
def zem : XS := .one .ret zce.xe
theorem zho : zem.OK := XS.one_ok (z1l zce)
def z6b (t0 : List Int) (top : List Int) : Option ((Bool)) :=
 (z4f t0).bind fun r =>
 (z4f top).bind fun r2 =>
 bif neI r.2 0 then
 some false
 else
 bif neI r2.2 0 then
 some false
 else
 z0l (List.length r.1) (
 z0l (List.length r2.1) (
 bif ltI (List.length r.1 : Nat) (List.length r2.1 : Nat) then
 some false
 else
 z0l (List.length r2.1) (
 (loopC z0j (r.1, r2.1, (List.length r2.1 : Nat), 0)).bind fun o =>
 Sum.elim (fun y =>
 some true) (fun y2 =>
 some y2) o)))
def zap : Sig := ⟨17, [.d .str, .d .str], [], 0, zem⟩
def za1 (x : (List Int) × (List Int)) : Option ((Bool)) := z6b x.1 x.2
theorem zct : FnOK Tryd.prog zap za1 :=
 fn_ok zc3 (h := (.two .no (.two .no (.two .no (.two .no (.two (.two .no (.over (loopD z1b.xe z1c (loopC z0j)))) .no)))))) Tryd.func17 (z3d [.den (.loop (subC (bodyC Tryd.f17) [1, 1, 1, 1, 0, 1, 0, 0])) (loopD z1b.xe z1c (loopC z0j))] (by kernel_rfl) ⟨z9e, trivial⟩) (by kernel_rfl) zho (fun x => by kernel_rfl)
def zlk : Env := ⟨[(entQ z9b z7q), (entQ zhm zfq), (entQ zap za1)], [], []⟩
theorem zjg : EnvsOK Tryd.prog zlk := ⟨z0y (z1o zak) (z0y (z1o znc) (z0y (z1o zct) (z3n _))), z2t _, z2n _⟩
def zcc : Shp := ⟨1, 0, [(0, .d .bool)], []⟩
def zel : XS := .one .ret zcc.xe
theorem zi2 : zel.OK := XS.one_ok (z1l zcc)
def z6a  : Option ((Bool)) :=
 (z4f ([47, 97, 47, 98, 126, 49, 46, 50, 48] : List Int)).bind fun r =>
 bif eqI r.2 0 then
 z0l (List.length r.1) (
 bif eqI (List.length r.1 : Nat) 2 then
 (idxI r.1 1).bind fun x =>
 bif eqS x ([98, 126, 49, 46, 50, 48] : List Int) then
 (za8 r.1).bind fun r2 =>
 bif bif eqS r2 ([47, 97, 47, 98, 126, 49, 46, 50, 48] : List Int) then true else false then
 (z6b ([47, 97, 47, 98] : List Int) ([47, 97] : List Int)).bind fun r3 =>
 some r3
 else
 some false
 else
 some false
 else
 some false)
 else
 some false
def zep : Sig := ⟨8, [], [], 0, zel⟩
def zdb (x : Unit) : Option ((Bool)) := z6a 
theorem zk0 : FnOK Tryd.prog zep zdb :=
 fn_ok zjg (h := .no) Tryd.func8 (z3d [] (by kernel_rfl) trivial) (by kernel_rfl) zi2 (fun x => by kernel_rfl)
def zlf : Env := ⟨[], [], []⟩
theorem zc8 : EnvsOK Tryd.prog zlf := ⟨z3n _, z2t _, z2n _⟩
def z6f : Shp := ⟨18, 0, [], []⟩
def z6g : Shp := ⟨18, 0, [(2, .d .bool)], []⟩
def z1t : XS := .or (.exit 0) z6f.xe (.one .ret z6g.xe)
theorem zao : z1t.OK := XS.or_ok (z1l z6f) (XS.one_ok (z1l z6g))
def z1s : Shp := ⟨18, 0, [(8, .d (.sl .str)), (9, .d (.int .i64)), (10, .d (.int .i64))], []⟩
abbrev z3v := (List (List Int)) × Int × Int
abbrev z7c := (Unit) ⊕ (Bool)
def z3u (t8 : List (List Int)) (t9 : Int) (t10 : Int) : Option (z3v ⊕ z7c) :=
 bif ltI t10 t9 then
 (idxI t8 t10).bind fun x =>
 z0l (List.length x) (
 bif ltI 200 (List.length x : Nat) then
 some (.inr (.inr false))
 else
 some (.inl (t8, t9, W64 (t10 + 1))))
 else
 some (.inr (.inl ()))
def z0n (s : z3v) : Option (z3v ⊕ z7c) := z3u s.1 s.2.1 s.2.2
theorem zaz : SoundD Tryd.prog (.loop (subC (bodyC Tryd.f9) [1, 1, 0, 1, 0, 0])) (loopD z1s.xe z1t (loopC z0n)) :=
 ze7 (S := z1s.xe) (X := z1t) zc8 (h := .no) (z3d [] (by kernel_rfl) trivial) (z1l z1s) zao z0n (fun s => by kernel_rfl)
def zcb : Shp := ⟨1, 0, [(0, .d .bool)], []⟩
def zeo : XS := .one .ret zcb.xe
theorem zhu : zeo.OK := XS.one_ok (z1l zcb)
def z7l (l : List (List Int)) : Option ((Bool)) :=
 z0l (List.length l) (
 bif ltI 40 (List.length l : Nat) then
 some false
 else
 z0l (List.length l) (
 (loopC z0n (l, (List.length l : Nat), 0)).bind fun o =>
 Sum.elim (fun y =>
 some true) (fun y2 =>
 some y2) o))
def zeu : Sig := ⟨9, [.d (.sl .str)], [], 0, zeo⟩
def zdd (x : (List (List Int))) : Option ((Bool)) := z7l x
theorem zk1 : FnOK Tryd.prog zeu zdd :=
 fn_ok zc8 (h := (.two .no (.two .no (.two (.two .no (.over (loopD z1s.xe z1t (loopC z0n)))) .no)))) Tryd.func9 (z3d [.den (.loop (subC (bodyC Tryd.f9) [1, 1, 0, 1, 0, 0])) (loopD z1s.xe z1t (loopC z0n))] (by kernel_rfl) ⟨zaz, trivial⟩) (by kernel_rfl) zhu (fun x => by kernel_rfl)
end Go.Proofs.YtgpmclpgcmgajaaDoor
set_option maxRecDepth 100000
set_option linter.unusedVariables false
set_option linter.unusedSimpArgs false
namespace Go.Proofs.YtgpmclpgcmgajaaDoor
open Go.Tm Go.Ab Go.Lib
def okI (x : Int) : Bool := z5a x || decide (48 ≤ x ∧ x ≤ 57) || (decide (x = 46) || decide (x = 95) || decide (x = 45))
def nameI (s : List Int) : Bool := decide (1 ≤ s.length ∧ s.length ≤ 12) && !decide (s = [46]) && !decide (s = [46, 46]) && s.all okI
theorem b8_eq {x : Int} (hx : 0 ≤ x ∧ x < 256) (c : UInt8) : (b8 x == c) = decide (x = c.toNat) := by
 rw [Bool.eq_iff_iff, beq_iff_eq, decide_eq_true_eq]
 constructor
 · intro e; rw [← e, z8z hx]
 · intro e
   apply UInt8.toNat_inj.1
   have := z8z hx
   omega
theorem zqw {x : Int} (hx : 0 ≤ x ∧ x < 256) : okc (b8 x) = okI x := by
 unfold okc okI
 have h := z8z hx
 rw [h, b8_eq hx, b8_eq hx, b8_eq hx]
 have : decide (48 ≤ (b8 x).toNat ∧ (b8 x).toNat ≤ 57) = decide (48 ≤ x ∧ x ≤ 57) := by
   rw [Bool.eq_iff_iff, decide_eq_true_eq, decide_eq_true_eq]; omega
 rw [this]; rfl
theorem zrp {s t : List Int} (hs : Bs s) (ht : Bs t) : s.map b8 = t.map b8 ↔ s = t := by
 constructor
 · intro h
   induction s generalizing t with
   | nil => cases t with
     | nil => rfl
     | cons y t => simp at h
   | cons x s ih => cases t with
     | nil => simp at h
     | cons y t =>
       simp only [List.map_cons, List.cons.injEq] at h
       rw [zgf (hs x (by simp)) (ht y (by simp)) h.1, ih (fun z hz => hs z (by simp [hz])) (fun z hz => ht z (by simp [hz])) h.2]
 · rintro rfl; rfl
theorem zuz {s : List Int} (hb : Bs s) : nameB (ba s) = nameI s := by
 unfold nameB nameI
 have e0 : (ba s).data.toList = s.map b8 := zbc s
 rw [e0, z3y]
 have h1 : (s.map b8 == [46]) = decide (s = [46]) := by
   rw [Bool.eq_iff_iff, beq_iff_eq, decide_eq_true_eq]
   exact zrp (t := [46]) hb (fun x hx => by simp at hx; subst hx; decide)
 have h2 : (s.map b8 == [46, 46]) = decide (s = [46, 46]) := by
   rw [Bool.eq_iff_iff, beq_iff_eq, decide_eq_true_eq]
   exact zrp (t := [46, 46]) hb (fun x hx => by simp at hx; subst hx; decide)
 have h3 : (s.map b8).all okc = s.all okI := by
   rw [List.all_map]
   rw [Bool.eq_iff_iff, List.all_eq_true, List.all_eq_true]
   constructor
   · intro h x hx; rw [← zqw (hb x hx)]; exact h x hx
   · intro h x hx; show okc (b8 x) = true; rw [zqw (hb x hx)]; exact h x hx
 rw [h1, h2, h3]
theorem zq0 {s : List Int} (hb : Bs s) (hl : s.length ≤ 1000) : zef s = some (nameI s) := by
 unfold zef zac
 rw [ble_t (by omega), zuz hb]; rfl
theorem zfj {s : List Int} (hb : Bs s) (hl : s.length ≤ 1000) : z8l s = some (canon s) := by
 unfold z8l zac
 rw [ble_t (by omega), zrc hb]; rfl
end Go.Proofs.YtgpmclpgcmgajaaDoor
set_option maxRecDepth 100000
set_option linter.unusedVariables false
set_option linter.unusedSimpArgs false
namespace Go.Proofs.YtgpmclpgcmgajaaDoor
open Go.Tm Go.Ab Go.Lib
def cutI (c : Int) : List Int → List Int × List Int × Bool
 | [] => ([], [], false)
 | x :: l => if x = c then ([], l, true) else (x :: (cutI c l).1, (cutI c l).2.1, (cutI c l).2.2)
theorem zmk (c : Int) : ∀ (s : List Int), (∀ x, x ∈ s → x ≠ c) → cutI c s = (s, [], false)
 | [], _ => rfl
 | x :: l, h => by rw [cutI, if_neg (h x (by simp)), zmk c l fun y hy => h y (by simp [hy])]
theorem zab (c : Int) : ∀ (s : List Int), ((∀ x, x ∈ s → x ≠ c) ∧ cutI c s = (s, [], false)) ∨ ∃ a b, (∀ x, x ∈ a → x ≠ c) ∧ s = a ++ c :: b ∧ cutI c s = (a, b, true)
 | [] => .inl ⟨(by intro x h; cases h), rfl⟩
 | y :: l => by
   by_cases h : y = c
   · subst h
     exact .inr ⟨[], l, (by intro x h; cases h), rfl, by simp [cutI]⟩
   · rcases zab c l with ⟨h1, h2⟩ | ⟨a, b, h1, h2, h3⟩
     · have hm : ∀ x, x ∈ y :: l → x ≠ c := fun x hx => by
         rcases List.mem_cons.1 hx with rfl | hx
         · exact h
         · exact h1 x hx
       exact .inl ⟨hm, zmk c _ hm⟩
     · refine .inr ⟨y :: a, b, fun x hx => ?_, by rw [h2]; rfl, ?_⟩
       · rcases List.mem_cons.1 hx with rfl | hx
         · exact h
         · exact h1 x hx
       · rw [cutI, if_neg h, h3]
theorem zix {c : Int} (hc : 0 ≤ c ∧ c < 256) : ∀ (s : List Int), Bs s → (∀ x, x ∈ s → x ≠ c) → indexByte (s.map b8) (b8 c) = -1
 | [], _, _ => rfl
 | x :: l, hb, h => by
   have ih := zix hc l (fun y hy => hb y (by simp [hy])) fun y hy => h y (by simp [hy])
   have hne : (b8 x == b8 c) = false := by
     rw [beq_eq_false_iff_ne]
     exact fun e => h x (by simp) (zgf (hb x (by simp)) hc e)
   rw [List.map_cons, indexByte, hne, ih]; rfl
theorem zgd {c : Int} (hc : 0 ≤ c ∧ c < 256) : ∀ (a b : List Int), Bs a → (∀ x, x ∈ a → x ≠ c) → indexByte ((a ++ c :: b).map b8) (b8 c) = a.length
 | [], b, _, _ => by simp [indexByte]
 | x :: a, b, hb, h => by
   have ih := zgd hc a b (fun y hy => hb y (by simp [hy])) fun y hy => h y (by simp [hy])
   have hne : (b8 x == b8 c) = false := by
     rw [beq_eq_false_iff_ne]
     exact fun e => h x (by simp) (zgf (hb x (by simp)) hc e)
   rw [List.cons_append, List.map_cons, indexByte, hne, ih]
   have : (((a.length : Nat) : Int) == -1) = false := by rw [beq_eq_false_iff_ne]; omega
   rw [this]
   simp
theorem zqh (s : List Int) (c : Int) : zde s c = indexByte (s.map b8) (b8 c) := by
 unfold zde
 rw [show (ba s).data.toList = s.map b8 from zbc s]
 rfl
theorem zu4 {s : List Int} {c : Int} (hl : s.length ≤ 1000) : z2c s [c] = some (indexByte (s.map b8) (b8 c)) := by
 have hI : z1g s c = some (indexByte (s.map b8) (b8 c)) := by
   unfold z1g
   rw [z6r (by omega), zqh]
 unfold z2c
 have e1 : idxI [c] 0 = some c := rfl
 have e2 : eqI (([c] : List Int).length : Nat) 0 = false := rfl
 have e3 : eqI (([c] : List Int).length : Nat) 1 = true := rfl
 have e4 : eqS [c] s = true → s = [c] := fun h => (of_decide_eq_true h).symm
 rw [z6r (by simp), e2]
 simp only [cond_false, Option.bind_some, e1, e3, cond_true, hI]
 cases h : eqS [c] s with
 | false => rfl
 | true =>
   rw [e4 h]
   simp [indexByte]
theorem zs5 {s : List Int} {c : Int} (hb : Bs s) (hc : 0 ≤ c ∧ c < 256) (hl : s.length ≤ 1000) : z7j s [c] = some (cutI c s) := by
 have key : z2h s [c] = some (cutI c s) := by
   unfold z2h
   rw [zu4 hl]
   simp only [Option.bind_some]
   rcases zab c s with ⟨h1, h2⟩ | ⟨a, b, h1, h2, h3⟩
   · rw [zix hc s hb h1, h2]; rfl
   · have hba : Bs a := fun x hx => hb x (by rw [h2]; simp [hx])
     have hlen : s.length = a.length + (b.length + 1) := by rw [h2]; simp
     have hi : indexByte (s.map b8) (b8 c) = a.length := by
       have := zgd hc a b hba h1
       rw [← h2] at this
       exact this
     rw [hi, h3, leI_t (by omega), cond_true, zfv (by omega), cond_true, z6r (by simp), zsd (by simp; omega)]
     have e : ((a.length : Int) + ((([c] : List Int).length : Nat) : Int)) = ((a.length + 1 : Nat) : Int) := by simp
     rw [e, zfv (by omega), cond_true]
     have g1 : subL s 0 (a.length : Int) = a := by simp [subL, h2]
     have g2 : subL s ((a.length + 1 : Nat) : Int) (s.length : Int) = b := by
       simp only [subL, Int.toNat_natCast]
       rw [hlen, h2, List.drop_append, List.drop_eq_nil_of_le (by omega), List.nil_append, show a.length + 1 - a.length = 1 by omega]
       simp only [List.drop_succ_cons, List.drop_zero]
       exact List.take_of_length_le (by omega)
     rw [g1, g2]
 unfold z7j
 rw [key]; rfl
def lostI : List Int := [108, 111, 115, 116, 43, 102, 111, 117, 110, 100]
def partI (s : List Int) : Bool := decide (s = lostI) || (nameI (cutI 126 s).1 && (!(cutI 126 s).2.2 || ((cutI 46 (cutI 126 s).2.1).2.2 && canon (cutI 46 (cutI 126 s).2.1).1 && canon (cutI 46 (cutI 126 s).2.1).2.1)))
theorem zsl {c : Int} {s : List Int} (hb : Bs s) : Bs (cutI c s).1 ∧ Bs (cutI c s).2.1 ∧ (cutI c s).1.length ≤ s.length ∧ (cutI c s).2.1.length ≤ s.length := by
 rcases zab c s with ⟨_, h2⟩ | ⟨a, b, _, h2, h3⟩
 · rw [h2]
   exact ⟨hb, (by intro x h; cases h), Nat.le_refl _, Nat.zero_le _⟩
 · rw [h3]
   exact ⟨fun x hx => hb x (by rw [h2]; simp [hx]), fun x hx => hb x (by rw [h2]; simp [hx]), by rw [h2]; simp, by rw [h2]; simp; omega⟩
theorem zua {s : List Int} (hb : Bs s) (hl : s.length ≤ 1000) : zc5 s = some (partI s) := by
 obtain ⟨b1, b2, b3, b4⟩ := zsl (c := 126) hb
 obtain ⟨d1, d2, d3, d4⟩ := zsl (c := 46) b2
 unfold zc5 partI
 rw [zs5 hb (by decide) hl]
 simp only [Option.bind_some]
 rw [zq0 b1 (by omega)]
 simp only [Option.bind_some]
 rw [zs5 b2 (by decide) (by omega)]
 simp only [Option.bind_some]
 rw [zfj d1 (by omega), zfj d2 (by omega)]
 simp only [Option.bind_some]
 by_cases h0 : s = lostI
 · have : eqS s ([108, 111, 115, 116, 43, 102, 111, 117, 110, 100] : List Int) = true := eqS_t h0
   rw [this, decide_eq_true h0]; rfl
 · have : eqS s ([108, 111, 115, 116, 43, 102, 111, 117, 110, 100] : List Int) = false := eqS_f h0
   rw [this, decide_eq_false h0]
   cases nameI (cutI 126 s).1 <;> cases (cutI 126 s).2.2 <;> cases (cutI 46 (cutI 126 s).2.1).2.2 <;> cases canon (cutI 46 (cutI 126 s).2.1).1 <;> cases canon (cutI 46 (cutI 126 s).2.1).2.1 <;> rfl
end Go.Proofs.YtgpmclpgcmgajaaDoor
set_option maxRecDepth 100000
set_option linter.unusedVariables false
set_option linter.unusedSimpArgs false
namespace Go.Proofs.YtgpmclpgcmgajaaDoor
open Go.Tm Go.Ab Go.Lib
def z1z (c : Int) : List Int → List (List Int)
 | [] => [[]]
 | x :: l => if x = c then [] :: z1z c l else match z1z c l with
   | [] => [[x]]
   | p :: ps => (x :: p) :: ps
theorem zcm (c : Int) : ∀ (s : List Int), (∀ x, x ∈ s → x ≠ c) → z1z c s = [s]
 | [], _ => rfl
 | x :: l, h => by rw [z1z, if_neg (h x (by simp)), zcm c l fun y hy => h y (by simp [hy])]
theorem ze5 (c : Int) : ∀ (a b : List Int), (∀ x, x ∈ a → x ≠ c) → z1z c (a ++ c :: b) = a :: z1z c b
 | [], b, _ => by simp [z1z]
 | x :: a, b, h => by rw [List.cons_append, z1z, if_neg (h x (by simp)), ze5 c a b fun y hy => h y (by simp [hy])]
theorem zld (c : Int) : ∀ (n : Nat) (s : List Int), s.length ≤ n → Bs s → ∀ p, p ∈ z1z c s → Bs p ∧ p.length ≤ s.length
 | n, s, hn, hb, p, hp => by
   rcases zab c s with ⟨h1, _⟩ | ⟨a, b, h1, h2, _⟩
   · rw [zcm c s h1] at hp
     simp at hp; subst hp
     exact ⟨hb, Nat.le_refl _⟩
   · rw [h2, ze5 c a b h1] at hp
     have hl : s.length = a.length + (b.length + 1) := by rw [h2]; simp
     rcases List.mem_cons.1 hp with rfl | hp
     · exact ⟨fun x hx => hb x (by rw [h2]; simp [hx]), by omega⟩
     · match n, hn with
       | 0, hn => omega
       | n + 1, hn =>
         have := zld c n b (by omega) (fun x hx => hb x (by rw [h2]; simp [hx])) p hp
         exact ⟨this.1, by omega⟩
theorem zgv {s : List Int} (hb : Bs s) : nums (s.map b8) = s := by
 unfold nums
 rw [List.map_map]
 conv => rhs; rw [← List.map_id s]
 exact List.map_congr_left fun x hx => z8z (hb x hx)
theorem zkd {c : Int} (hc : 0 ≤ c ∧ c < 256) : ∀ (n : Nat) (s : List Int), s.length ≤ n → Bs s → (splitK [b8 c] 0 ((s.map b8).count (b8 c)) (s.map b8)).map nums = z1z c s
 | n, s, hn, hb => by
   rcases zab c s with ⟨h1, _⟩ | ⟨a, b, h1, h2, _⟩
   · have hcnt : (s.map b8).count (b8 c) = 0 := by
       rw [List.count_eq_zero]
       intro hm
       obtain ⟨x, hx, e⟩ := List.mem_map.1 hm
       exact h1 x hx (zgf (hb x hx) hc e)
     rw [hcnt, zcm c s h1]
     simp only [splitK, List.map_cons, List.map_nil]
     rw [zgv hb]
   · have hba : Bs a := fun x hx => hb x (by rw [h2]; simp [hx])
     have hbb : Bs b := fun x hx => hb x (by rw [h2]; simp [hx])
     have hl : s.length = a.length + (b.length + 1) := by rw [h2]; simp
     have hca : (a.map b8).count (b8 c) = 0 := by
       rw [List.count_eq_zero]
       intro hm
       obtain ⟨x, hx, e⟩ := List.mem_map.1 hm
       exact h1 x hx (zgf (hba x hx) hc e)
     have hcnt : (s.map b8).count (b8 c) = (b.map b8).count (b8 c) + 1 := by
       rw [h2, List.map_append, List.count_append, hca, List.map_cons, List.count_cons]
       simp
     have hi : index (s.map b8) [b8 c] = a.length := by
       rw [index_one, h2]
       exact zgd hc a b hba h1
     have hne : (index (s.map b8) [b8 c] == -1) = false := by rw [hi, beq_eq_false_iff_ne]; omega
     rw [hcnt]
     conv => rhs; rw [h2]
     rw [ze5 c a b h1, splitK, hne, hi]
     have e1 : (s.map b8).take (((a.length : Nat) : Int).toNat + 0) = a.map b8 := by
       rw [h2, List.map_append, Int.toNat_natCast, Nat.add_zero]
       exact List.take_left' (by simp)
     have e2 : (s.map b8).drop (((a.length : Nat) : Int).toNat + [b8 c].length) = b.map b8 := by
       rw [h2, List.map_append, List.map_cons, Int.toNat_natCast, List.length_singleton, List.drop_append, List.drop_eq_nil_of_le (by simp), List.nil_append]
       simp
     simp only [Bool.false_eq_true, if_false]
     rw [e1, e2, List.map_cons, zgv hba]
     match n, hn with
     | 0, hn => omega
     | n + 1, hn => rw [zkd hc n b (by omega) hbb]
theorem zqj {c : Int} (hc : 0 ≤ c ∧ c < 256) {s : List Int} (hb : Bs s) : zaf c s = z1z c s := by
 rw [← zkd hc s.length s (Nat.le_refl _) hb]
 unfold zaf
 have e0 : (ba s).data.toList = s.map b8 := zbc s
 have e1 : countB (ba s) ⟨#[c.toNat.toUInt8]⟩ = (s.map b8).count (b8 c) := by
   have : countB (ba s) ⟨#[c.toNat.toUInt8]⟩ = count (ba s).data.toList [b8 c] := rfl
   rw [this, count_one, e0]
 rw [e1, show (fun b : ByteArray => nums b.data.toList) = nums ∘ (fun b : ByteArray => b.data.toList) from rfl, ← List.map_map]
 congr 1
 have := splitB_data ⟨#[c.toNat.toUInt8]⟩ 0 ((s.map b8).count (b8 c)) (ba s)
 rw [e0] at this
 exact this
theorem zja (c : Int) : ∀ (s : List Int), (z1z c s).length ≤ s.length + 1
 | [] => Nat.le_refl _
 | x :: l => by
   have := zja c l
   rw [z1z]
   split
   · simp; omega
   · split <;> simp_all
     omega
def z3g (s : List Int) : List (List Int) × Int :=
 if 120 < s.length ∨ s.head? ≠ some 47 then ([], 20)
 else if s = [47] then ([], 0)
 else if 10 < (z1z 47 s.tail).length ∨ (z1z 47 s.tail).all partI = false then ([], 20)
 else (z1z 47 s.tail, 0)
theorem zr9 {s : List Int} (hl : s.length ≤ 1000) : z4v s [47] = some (decide (s.head? = some 47)) := by
 unfold z4v z2i
 cases s with
 | nil => rfl
 | cons x l =>
   have hlen : (x :: l).length = l.length + 1 := rfl
   rw [z6r (by omega), z6r (by simp), leI_t (by simp; omega), cond_true, z6r (by simp), zfv (by simp; omega)]
   have : subL (x :: l) 0 ((([47] : List Int).length : Nat) : Int) = [x] := by simp [subL]
   rw [this]
   simp only [cond_true, Option.bind_some, Option.some.injEq]
   rw [Bool.eq_iff_iff, decide_eq_true_eq, decide_eq_true_eq]
   simp
theorem zbw {s : List Int} (hb : Bs s) (hl : s.length ≤ 1000) : z4f s = some (z3g s) := by
 refine ok_is ?_
 unfold z4f z3g
 rw [zr9 hl]
 repeat' first
   | (dsimp only [Int.toNat_natCast, List.length_nil])
   | with_reducible first | refine zcr ?_ | refine zd7 ?_ | refine z2s ?_ | refine zdk ?_ | refine zbq ?_ | refine zf2 ?_ | refine qs ?_ | refine qb ?_ | refine zff ?_ | refine qw ?_ | refine zgi ?_ | refine zg1 ?_ | refine qi ?_ | refine qg (h := ?_) | refine qx (h := ?_) | refine qy (h := ?_) | refine qa ?_ | refine qc ?_ | refine ql ?_ | refine qp ?_ | refine zd2 ?_ | rfl
   | (with_reducible first | refine ok_lt ?_ ?_ | refine ok_le ?_ ?_ | refine zfz ?_ ?_ | refine zgh ?_ ?_ | refine zf7 ?_ ?_ | refine qu ?_ ?_ | refine ok_if ?_ ?_) <;> intro _ <;> try (exfalso; omega)
 · rw [if_pos (.inl (by omega))]
 · rename_i h0 h1 h2
   have h1 := of_decide_eq_true h1
   rw [if_neg (by rintro (h | h); omega; exact h h1), if_pos h2]
 · rename_i h0 h1 h2 _
   have h1 := of_decide_eq_true h1
   rw [if_neg (by rintro (h | h); omega; exact h h1), if_neg h2]
   have htl : subL s 1 (s.length : Int) = s.tail := by
     simp [subL, List.take_of_length_le]
   have hbt : Bs s.tail := fun x hx => hb x (List.mem_of_mem_tail hx)
   have hS : z8g (subL s 1 (s.length : Int)) [47] = some (z1z 47 s.tail) := by
     rw [htl]
     unfold z8g
     dsimp only
     rw [ble_t (by rw [List.length_tail]; omega), zqj (by decide) hbt]; rfl
   rw [hS]
   have hpl : ∀ p, p ∈ z1z 47 s.tail → Bs p ∧ p.length ≤ s.tail.length := zld 47 _ _ (Nat.le_refl _) hbt
   have hlen := zja 47 s.tail
   have hlt : s.tail.length ≤ 1000 := by rw [List.length_tail]; omega
   generalize z1z 47 s.tail = l at *
   repeat' first
     | (dsimp only [Int.toNat_natCast, List.length_nil])
     | with_reducible first | refine zcr ?_ | refine zd7 ?_ | refine z2s ?_ | refine zdk ?_ | refine zbq ?_ | refine zf2 ?_ | refine qs ?_ | refine qb ?_ | refine zff ?_ | refine qw ?_ | refine zgi ?_ | refine zg1 ?_ | refine qi ?_ | refine qg (h := ?_) | refine qx (h := ?_) | refine qy (h := ?_) | refine qa ?_ | refine qc ?_ | refine ql ?_ | refine qp ?_ | refine zd2 ?_ | rfl
     | (with_reducible first | refine ok_lt ?_ ?_ | refine ok_le ?_ ?_ | refine zfz ?_ ?_ | refine zgh ?_ ?_ | refine zf7 ?_ ?_ | refine qu ?_ ?_ | refine ok_if ?_ ?_) <;> intro _ <;> try (exfalso; omega)
   · rw [if_pos (.inl (by omega))]
   · rename_i h4
     have hloop : loopC z0i (l, l, (l.length : Int), 0) = some (if (l.any fun x => !partI x) = true then .inr ([], 20) else .inl l) := by
       refine zlc _ l (fun i => (l, l, (l.length : Int), (i : Int))) (fun x => !partI x) _ _ ?_ fun i hi => ?_
       · unfold z0i z2r
         dsimp only
         rw [ltI_f (by omega)]; rfl
       · unfold z0i z2r
         dsimp only
         obtain ⟨b1, b2⟩ := hpl l[i] (List.getElem_mem hi)
         rw [ltI_t (by omega), cond_true, zg9 hi]
         simp only [Option.bind_some]
         rw [zua b1 (by omega)]
         simp only [Option.bind_some]
         rw [zjx (by omega)]
         cases partI l[i] <;> rfl
     rw [hloop]
     have hany : (l.any fun x => !partI x) = !(l.all partI) := by rw [List.not_all_eq_any_not]
     rw [hany]
     cases hall : l.all partI with
     | true =>
       refine z2s (z2s ?_)
       rw [if_neg (by simp; omega)]
     | false =>
       refine z2s (z2s ?_)
       rw [if_pos (Or.inr rfl)]
 · rename_i h0 h1 h2 h3
   exfalso
   have h1 := of_decide_eq_true h1
   have hpos : 1 ≤ s.length := by
     cases s with
     | nil => simp at h1
     | cons x l => simp
   rw [zfv (by omega)] at h3
   cases h3
 · rename_i h0 h1
   have h1 := of_decide_eq_false h1
   rw [if_pos (.inr h1)]
end Go.Proofs.YtgpmclpgcmgajaaDoor
set_option maxRecDepth 100000
set_option linter.unusedVariables false
set_option linter.unusedSimpArgs false
namespace Go.Proofs.YtgpmclpgcmgajaaDoor
open Go.Tm Go.Ab Go.Lib
def diff (a b : List (List Int)) (n : Nat) : Bool := (List.range n).any fun i => !decide (a[i]? = b[i]?)
theorem zil {a b : List (List Int)} {n : Nat} : diff a b n = false ↔ ∀ i, i < n → a[i]? = b[i]? := by
 unfold diff
 rw [List.any_eq_false]
 constructor
 · intro h i hi
   have := h i (List.mem_range.2 hi)
   simpa using this
 · intro h i hi
   simp [h i (List.mem_range.1 hi)]
theorem zec {a b : List (List Int)} : b.isPrefixOf a = true ↔ b.length ≤ a.length ∧ ∀ i, i < b.length → a[i]? = b[i]? := by
 rw [List.isPrefixOf_iff_prefix]
 constructor
 · rintro ⟨t, rfl⟩
   exact ⟨by simp, fun i hi => by rw [List.getElem?_append_left hi]⟩
 · rintro ⟨h1, h2⟩
   refine ⟨a.drop b.length, ?_⟩
   conv => rhs; rw [← List.take_append_drop b.length a]
   congr 1
   apply List.ext_getElem?
   intro i
   rw [List.getElem?_take]
   split
   · rename_i hi; exact (h2 i hi).symm
   · rename_i hi; exact List.getElem?_eq_none (by omega)
theorem zo2 {a b : List (List Int)} (hl : b.length ≤ a.length) : diff a b b.length = !b.isPrefixOf a := by
 cases hd : diff a b b.length with
 | false =>
   have := zec.2 ⟨hl, zil.1 hd⟩
   rw [this]; rfl
 | true =>
   cases hp : b.isPrefixOf a with
   | false => rfl
   | true =>
     have := zil.2 (zec.1 hp).2
     rw [this] at hd; cases hd
def z9o (s top : List Int) : Bool := decide ((z3g s).2 = 0) && decide ((z3g top).2 = 0) && (z3g top).1.isPrefixOf (z3g s).1
theorem zc9 (s : List Int) : (z3g s).1.length ≤ 10 := by
 unfold z3g
 split
 · exact Nat.zero_le _
 · split
   · exact Nat.zero_le _
   · split
     · exact Nat.zero_le _
     · rename_i h; simp only [not_or] at h; exact Nat.le_of_not_lt h.1
theorem zg3 {s top : List Int} (hs : Bs s) (ht : Bs top) (ls : s.length ≤ 1000) (lt : top.length ≤ 1000) : z6b s top = some (z9o s top) := by
 refine ok_is ?_
 unfold z6b z9o
 rw [zbw hs ls, zbw ht lt]
 have l1 := zc9 s
 have l2 := zc9 top
 generalize z3g s = A at *
 generalize z3g top = B at *
 repeat' first
   | (dsimp only [Int.toNat_natCast, List.length_nil])
   | with_reducible first | refine zcr ?_ | refine zd7 ?_ | refine z2s ?_ | refine zdk ?_ | refine zbq ?_ | refine zf2 ?_ | refine qs ?_ | refine qb ?_ | refine zff ?_ | refine qw ?_ | refine zgi ?_ | refine zg1 ?_ | refine qi ?_ | refine qg (h := ?_) | refine qx (h := ?_) | refine qy (h := ?_) | refine qa ?_ | refine qc ?_ | refine ql ?_ | refine qp ?_ | refine zd2 ?_ | rfl
   | (with_reducible first | refine ok_lt ?_ ?_ | refine ok_le ?_ ?_ | refine zfz ?_ ?_ | refine zgh ?_ ?_ | refine zf7 ?_ ?_ | refine qu ?_ ?_ | refine ok_if ?_ ?_) <;> intro _ <;> try (exfalso; omega)
 · rename_i h1 h2 h3
   rw [h1, h2]
   have : B.1.isPrefixOf A.1 = false := by
     cases hp : B.1.isPrefixOf A.1 with
     | false => rfl
     | true => have := (zec.1 hp).1; omega
   rw [this]; rfl
 · rename_i h1 h2 h3
   rw [h1, h2]
   have hle : B.1.length ≤ A.1.length := by omega
   have hloop : loopC z0j (A.1, B.1, (B.1.length : Int), 0) = some (if diff A.1 B.1 B.1.length = true then .inr false else .inl ()) := by
     refine zm7 _ B.1.length (fun i => (A.1, B.1, (B.1.length : Int), (i : Int))) (fun i => !decide (A.1[i]? = B.1[i]?)) _ _ ?_ fun i hi => ?_
     · unfold z0j z2z
       dsimp only
       rw [ltI_f (by omega)]; rfl
     · unfold z0j z2z
       dsimp only
       rw [ltI_t (by omega), cond_true, zg9 hi, zg9 (show i < A.1.length by omega), zjx (by omega)]
       simp only [Option.bind_some]
       rw [getE hi, getE (show i < A.1.length by omega)]
       by_cases e : A.1[i] = B.1[i]
       · rw [eqS_t e, decide_eq_true (by rw [e])]; rfl
       · rw [eqS_f e, decide_eq_false (fun h => e (Option.some.inj h))]; rfl
   rw [hloop, zo2 hle]
   cases B.1.isPrefixOf A.1 <;> exact z2s (z2s rfl)
 · rename_i h1 h2; rw [h1, decide_eq_false h2]; rfl
 · rename_i h; rw [decide_eq_false h]; rfl
def zga (l : List (List Int)) : Bool := decide (l.length ≤ 40) && l.all fun s => decide (s.length ≤ 200)
theorem ztp {l : List (List Int)} (h1 : l.length ≤ maxLen) (h2 : ∀ s, s ∈ l → s.length ≤ maxLen) : z7l l = some (zga l) := by
 unfold maxLen at h1 h2
 refine ok_is ?_
 unfold z7l zga
 repeat' first
   | (dsimp only [Int.toNat_natCast, List.length_nil])
   | with_reducible first | refine zcr ?_ | refine zd7 ?_ | refine z2s ?_ | refine zdk ?_ | refine zbq ?_ | refine zf2 ?_ | refine qs ?_ | refine qb ?_ | refine zff ?_ | refine qw ?_ | refine zgi ?_ | refine zg1 ?_ | refine qi ?_ | refine qg (h := ?_) | refine qx (h := ?_) | refine qy (h := ?_) | refine qa ?_ | refine qc ?_ | refine ql ?_ | refine qp ?_ | refine zd2 ?_ | rfl
   | (with_reducible first | refine ok_lt ?_ ?_ | refine ok_le ?_ ?_ | refine zfz ?_ ?_ | refine zgh ?_ ?_ | refine zf7 ?_ ?_ | refine qu ?_ ?_ | refine ok_if ?_ ?_) <;> intro _ <;> try (exfalso; omega)
 · rw [decide_eq_false (by omega)]; rfl
 · rw [decide_eq_true (by omega)]
   have hloop : loopC z0n (l, (l.length : Int), 0) = some (if (l.any fun s => !decide (s.length ≤ 200)) = true then .inr false else .inl ()) := by
     refine zlc _ l (fun i => (l, (l.length : Int), (i : Int))) (fun s => !decide (s.length ≤ 200)) _ _ ?_ fun i hi => ?_
     · unfold z0n z3u
       dsimp only
       rw [ltI_f (by omega)]; rfl
     · unfold z0n z3u
       dsimp only
       have := h2 l[i] (List.getElem_mem hi)
       rw [ltI_t (by omega), cond_true, zg9 hi, zjx (by omega)]
       simp only [Option.bind_some]
       rw [z6r (by omega)]
       by_cases e : l[i].length ≤ 200
       · rw [ltI_f (by omega), decide_eq_true e]; rfl
       · rw [ltI_t (by omega), decide_eq_false e]; rfl
   have hany : (l.any fun s => !decide (s.length ≤ 200)) = !(l.all fun s => decide (s.length ≤ 200)) := by rw [List.not_all_eq_any_not]
   rw [hloop, hany]
   cases (l.all fun s => decide (s.length ≤ 200)) <;> exact z2s (z2s rfl)
end Go.Proofs.YtgpmclpgcmgajaaDoor