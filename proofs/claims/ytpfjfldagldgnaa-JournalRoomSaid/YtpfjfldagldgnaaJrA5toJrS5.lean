import Derived.Test.YtpfjfldagldgnaaJrA
import Derived.Test.YtpfjfldagldgnaaJrOtoJrS
set_option maxRecDepth 100000
set_option linter.unusedVariables false
noncomputable section
namespace Go.Proofs.Ytpfjfldagldgnaa
open Go.Tm Go.Ab
def zyf : Env := ⟨[], [], []⟩
theorem zvl : EnvsOK Try.prog zyf := ⟨z0j _, z0g _, z0f _⟩
def zid : Shp := ⟨1, 0, [(0, .d (.int .i64))], []⟩
def zm1 : XS := .one .ret zid.xe
theorem ztr : zm1.OK := XS.one_ok (z0a zid)
def zf9  : Option ((Int)) :=
 some 0
def zlr : Sig := ⟨21, [.c .nilp], [], 0, zm1⟩
def zkm (x : Unit) : Option ((Int)) := zf9 
theorem zxj : FnOK Try.prog zlr zkm :=
 fn_ok zvl (h := .no) Try.func21 (z0d [] (by kernel_rfl) trivial) (by kernel_rfl) ztr (fun x => by kernel_rfl)
def z1jl : Env := ⟨[], [], []⟩
theorem z14t : EnvsOK Try.prog z1jl := ⟨z0j _, z0g _, z0f _⟩
def zlq : Shp := ⟨30, 0, [(3, .d (.int .i64)), (4, .d (.int .i64))], []⟩
def z8q : XS := .one (.exit 0) zlq.xe
theorem zxr : z8q.OK := XS.one_ok (z0a zlq)
def z8u : Shp := ⟨30, 0, [(0, .d .str), (3, .d (.int .i64)), (4, .d (.int .i64)), (5, .d (.int .i64))], []⟩
abbrev zff := (List Int) × Int × Int × Int
abbrev zo5 := (Int × Int)
def z8m (t0 : List Int) (low : Int) (high : Int) (i : Int) : Option (zff ⊕ zo5) :=
 z0i (List.length t0) (
 bif ltI i (List.length t0 : Nat) then
 (idxI t0 i).bind fun x =>
 some (.inl ((t0, W64 (low + (W64 (x))), W64 (high + (Int.tmod ((W64 (low + (W64 (x))))) 65521)), W64 (i + 1))))
 else
 some (.inr (low, high)))
def z8z (s : zff) : Option (zff ⊕ zo5) := z8m s.1 s.2.1 s.2.2.1 s.2.2.2
theorem zy1 : SoundD Try.prog (.loop (subC (bodyC Try.f62) [1, 1, 0, 1, 0, 0])) (loopD z8u.xe z8q (loopC z8z)) :=
 z0y (S := z8u.xe) (X := z8q) z14t (h := .no) (z0d [] (by kernel_rfl) trivial) (z0a z8u) zxr z8z (fun s => by kernel_rfl)
def z14n : Shp := ⟨1, 0, [(0, .d (.int .u32))], []⟩
def z19z : XS := .one .ret z14n.xe
theorem z1e1 : z19z.OK := XS.one_ok (z0a z14n)
def zz6 (t0 : List Int) : Option ((Int)) :=
 (loopC z8z (t0, 1, 0, 0)).bind fun o =>
 some (WU32 ((WU32 ((WU32 (Int.tmod o.2 65521)) * 65536)) + (WU32 (Int.tmod o.1 65521))))
def z19e : Sig := ⟨62, [.d .str], [], 0, z19z⟩
def z16s (x : (List Int)) : Option ((Int)) := zz6 x
theorem z1hj : FnOK Try.prog z19e z16s :=
 fn_ok z14t (h := (.two .no (.two .no (.two (.two .no (.over (loopD z8u.xe z8q (loopC z8z)))) .no)))) Try.func62 (z0d [.den (.loop (subC (bodyC Try.f62) [1, 1, 0, 1, 0, 0])) (loopD z8u.xe z8q (loopC z8z))] (by kernel_rfl) ⟨zy1, trivial⟩) (by kernel_rfl) z1e1 (fun x => by kernel_rfl)
def z1hu : Env := ⟨[(entQ z19e z16s)], [], []⟩
theorem z1eb : EnvsOK Try.prog z1hu := ⟨z0c (z0e z1hj) (z0j _), z0g _, z0f _⟩
def z11k : Shp := ⟨1, 0, [(0, .d .str)], []⟩
def z17f : XS := .one .ret z11k.xe
theorem z1bq : z17f.OK := XS.one_ok (z0a z11k)
def zuj (t0 : List Int) : Option (((List Int))) :=
 (zz6 t0).bind fun r =>
 catG t0 ([WU8 (WU32 (Int.tdiv r 16777216)), WU8 (WU32 (Int.tdiv r 65536)), WU8 (WU32 (Int.tdiv r 256)), WU8 (r)] : List Int) fun _ =>
 some (t0 ++ ([WU8 (WU32 (Int.tdiv r 16777216)), WU8 (WU32 (Int.tdiv r 65536)), WU8 (WU32 (Int.tdiv r 256)), WU8 (r)] : List Int))
def z15s : Sig := ⟨42, [.d .str], [], 0, z17f⟩
def z14g (x : (List Int)) : Option (((List Int))) := zuj x
theorem z1fz : FnOK Try.prog z15s z14g :=
 fn_ok z1eb (h := .no) Try.func42 (z0d [] (by kernel_rfl) trivial) (by kernel_rfl) z1bq (fun x => by kernel_rfl)
def z1g3 : Env := ⟨[], [], []⟩
theorem z1d3 : EnvsOK Try.prog z1g3 := ⟨z0j _, z0g _, z0f _⟩
def zyv : Shp := ⟨1, 0, [(0, .tu [.d .str, .d .bool])], []⟩
def z14r : XS := .one .ret zyv.xe
theorem z1bc : z14r.OK := XS.one_ok (z0a zyv)
def zrq (t0 : List Int) : Option (((List Int) × Bool)) :=
 z0i (List.length t0) (
 bif ltI 65535 (List.length t0 : Nat) then
 some (([] : List Int), false)
 else
 bif ltI (List.length t0 : Nat) 255 then
 catG ([WU8 ((List.length t0 : Nat))] : List Int) t0 fun _ =>
 some ((([WU8 ((List.length t0 : Nat))] : List Int) ++ t0, true))
 else
 catG (([255, WU8 (W64 (Int.tdiv (List.length t0 : Nat) 256)), WU8 (Int.tmod (List.length t0 : Nat) 256)] : List Int)) t0 fun _ =>
 some (((([255, WU8 (W64 (Int.tdiv (List.length t0 : Nat) 256)), WU8 (Int.tmod (List.length t0 : Nat) 256)] : List Int)) ++ t0, true)))
def z14s : Sig := ⟨41, [.d .str], [], 0, z14r⟩
def z12f (x : (List Int)) : Option (((List Int) × Bool)) := zrq x
theorem z1eh : FnOK Try.prog z14s z12f :=
 fn_ok z1d3 (h := .no) Try.func41 (z0d [] (by kernel_rfl) trivial) (by kernel_rfl) z1bc (fun x => by kernel_rfl)
def z1ja : Env := ⟨[(entQ z15s z14g), (entQ z14s z12f)], [], []⟩
theorem z14i : EnvsOK Try.prog z1ja := ⟨z0c (z0e z1fz) (z0c (z0e z1eh) (z0j _)), z0g _, z0f _⟩
def zm0 : Shp := ⟨26, 0, [(3, .d .str)], []⟩
def z8o : XS := .one (.exit 0) zm0.xe
theorem zxg : z8o.OK := XS.one_ok (z0a zm0)
def z8v : Shp := ⟨26, 0, [(0, .d (.sl .str)), (3, .d .str), (4, .d (.int .i64))], []⟩
abbrev zfp := (List (List Int)) × (List Int) × Int
abbrev zoo := ((List Int))
def z8n (l : List (List Int)) (t3 : List Int) (i : Int) : Option (zfp ⊕ zoo) :=
 z0i (List.length l) (
 bif ltI i (List.length l : Nat) then
 (idxI l i).bind fun x =>
 (zuj x).bind fun r =>
 (zrq r).bind fun r2 =>
 catG t3 r2.1 fun _ =>
 some (.inl (l, t3 ++ r2.1, W64 (i + 1)))
 else
 some (.inr t3))
def z8w (s : zfp) : Option (zfp ⊕ zoo) := z8n s.1 s.2.1 s.2.2
theorem zxz : SoundD Try.prog (.loop (subC (bodyC Try.f22) [1, 1, 0, 1, 0, 0])) (loopD z8v.xe z8o (loopC z8w)) :=
 z0y (S := z8v.xe) (X := z8o) z14i (h := .no) (z0d [] (by kernel_rfl) trivial) (z0a z8v) zxg z8w (fun s => by kernel_rfl)
def z14w : Shp := ⟨1, 0, [(0, .d .str)], []⟩
def z19y : XS := .one .ret z14w.xe
theorem z1do : z19y.OK := XS.one_ok (z0a z14w)
def zjr (l : List (List Int)) : Option (((List Int))) :=
 (loopC z8w (l, ([] : List Int), 0)).bind fun o =>
 some o
def z1a4 : Sig := ⟨22, [.d (.sl .str)], [], 0, z19y⟩
def z16j (x : (List (List Int))) : Option (((List Int))) := zjr x
theorem z1h3 : FnOK Try.prog z1a4 z16j :=
 fn_ok z14i (h := (.two .no (.two .no (.two (.two .no (.over (loopD z8v.xe z8o (loopC z8w)))) .no)))) Try.func22 (z0d [.den (.loop (subC (bodyC Try.f22) [1, 1, 0, 1, 0, 0])) (loopD z8v.xe z8o (loopC z8w))] (by kernel_rfl) ⟨zxz, trivial⟩) (by kernel_rfl) z1do (fun x => by kernel_rfl)
def zyg : Env := ⟨[], [], []⟩
theorem zuk : EnvsOK Try.prog zyg := ⟨z0j _, z0g _, z0f _⟩
def zi6 : Shp := ⟨1, 0, [(0, .d (.int .i64))], []⟩
def zlu : XS := .one .ret zi6.xe
theorem zt2 : zlu.OK := XS.one_ok (z0a zi6)
def zbk (d : T3) : Option ((Int)) :=
 z0i (List.length d.2.1) (
 some (List.length d.2.1 : Nat))
def zlj : Sig := ⟨21, [.rf (.d c8)], [], 0, zlu⟩
def zjf (x : T3) : Option ((Int)) := zbk x
theorem zwy : FnOK Try.prog zlj zjf :=
 fn_ok zuk (h := .no) Try.func21 (z0d [] (by kernel_rfl) trivial) (by kernel_rfl) zt2 (fun x => by kernel_rfl)
def z15a : Env := ⟨[(entQ z14p z12c), (entQ z16o z14h), (entQ zkf zie), (entQ z1a4 z16j), (entQ zlo zk1), (entQ zlc zko), (entQ zlr zkm), (entQ ze4 zd8), (entQ zew zee), (entQ zhy zh2), (entQ zlj zjf), (entQ zcl zc4), (entQ zd5 zcs)], [(entP zrj zp1), (entP zo0 zmk), (entP zm6 zkq), (entP zg2 zf0), (entP zdd zcv), (entP zga zf4), (entP znz zmc), (entP zd7 zcd), (entP zg5 zf3)], []⟩
theorem z8t : EnvsOK Try.prog z15a := ⟨z0c (z0e z1dr) (z0c (z0e z1ga) (z0c (z0e zul) (z0c (z0e z1h3) (z0c (z0e zxu) (z0c (z0e zxl) (z0c (z0e zxj) (z0c (z0e zll) (z0c (z0e znd) (z0c (z0e zt6) (z0c (z0e zwy) (z0c (z0e zib) (z0c (z0e zj5) (z0j _))))))))))))), z0l (z0t zz8) (z0l (z0t zu2) (z0l (z0t zw6) (z0l (z0t zqw) (z0l (z0t zkh) (z0l (z0t zra) (z0l (z0t zu9) (z0l (z0t zj8) (z0l (z0t zqp) (z0g _))))))))), z0f _⟩
def zj0 : Shp := ⟨128, 0, [(0, .d (.int .i64)), (1, .d c5), (5, .c .nilp)], []⟩
def zjs : Shp := ⟨128, 0, [(0, .d (.int .i64)), (1, .d c5), (5, .pt 0 r0 [])], [.var 71 (.ag [.wn 1 c1, .d c2, .d (.int .i64), .d c3, .d (.int .i64), .d .bool]), .row 86 c1]⟩
def zej : XS := .or .normal zj0.xe (.one .normal zjs.xe)
theorem zvk : zej.OK := XS.or_ok (z0a zj0) (XS.one_ok (z0a zjs))
def zha : Shp := ⟨128, 0, [(0, .d (.int .i64)), (1, .d c5), (5, .c .nilp), (7, .c .nilp), (9, .d (.int .i64))], []⟩
def zh5 : Shp := ⟨128, 0, [(0, .d (.int .i64)), (1, .d c5), (5, .c .nilp), (7, .pt 0 r6 []), (9, .d (.int .i64))], [.var 75 (.ag [.c .nilp, .d c4, .d (.sl (.int .u8)), .d (.int .i64), .d .bool])]⟩
def zcj : XS := .or .normal zha.xe (.one .normal zh5.xe)
theorem zs9 : zcj.OK := XS.or_ok (z0a zha) (XS.one_ok (z0a zh5))
def zij : Shp := ⟨128, 0, [(0, .d (.int .i64)), (1, .d c5), (5, .c .nilp)], []⟩
def za4 : Shp := ⟨128, 0, [(5, .c .nilp), (7, .c .nilp), (10, .d (.int .i64))], []⟩
def za6 : Shp := ⟨128, 0, [(4, .d .bool)], []⟩
def z2h : XS := .or (.exit 0) za4.xe (.one .ret za6.xe)
theorem zgs : z2h.OK := XS.or_ok (z0a za4) (XS.one_ok (z0a za6))
def z0x : Shp := ⟨128, 0, [(5, .c .nilp), (7, .c .nilp), (10, .d (.int .i64)), (51, .d c5), (52, .d (.int .i64)), (53, .d (.int .i64))], []⟩
abbrev z6k := Int × (List (List Int)) × Int × Int
abbrev zaj := (Int) ⊕ (Bool)
def ziu (room : Int) (t51 : List (List Int)) (t52 : Int) (t53 : Int) : Option (z6k ⊕ zaj) :=
 bif ltI t53 t52 then
 (idxI t51 t53).bind fun x =>
 (zjr ([x] : List (List Int))).bind fun r =>
 z0i (List.length r) (
 (z0u).bind fun r2 =>
 (z4r).bind fun r3 =>
 (zf1 ([x] : List (List Int))).bind fun r4 =>
 bif !((eqI r4 0) == (leI (List.length r : Nat) r2)) then
 some (.inr (.inr false))
 else
 bif eqI r4 0 then
 (z0u).bind fun r5 =>
 bif neI r5 (W64 (r2 - (List.length r : Nat))) then
 some (.inr (.inr false))
 else
 bif neI r4 0 then
 bif neI r4 5 then
 some (.inr (.inr false))
 else
 (z0u).bind fun r6 =>
 bif neI r6 r2 then
 some (.inr (.inr false))
 else
 (z4r).bind fun r7 =>
 bif neI r7 r3 then
 some (.inr (.inr false))
 else
 some (.inl (room, t51, t52, W64 (t53 + 1)))
 else
 some (.inl (room, t51, t52, W64 (t53 + 1)))
 else
 bif neI r4 0 then
 bif neI r4 5 then
 some (.inr (.inr false))
 else
 (z0u).bind fun r8 =>
 bif neI r8 r2 then
 some (.inr (.inr false))
 else
 (z4r).bind fun r9 =>
 bif neI r9 r3 then
 some (.inr (.inr false))
 else
 some (.inl (room, t51, t52, W64 (t53 + 1)))
 else
 some (.inl (room, t51, t52, W64 (t53 + 1))))
 else
 some (.inr (.inl room))
def z2e (s : z6k) : Option (z6k ⊕ zaj) := ziu s.1 s.2.1 s.2.2.1 s.2.2.2
theorem zhe : SoundD Try.prog (.loop (subC (bodyC Try.f5) [1, 1, 1, 1, 1, 1, 0, 1, 0, 0])) (loopD z0x.xe z2h (loopC z2e)) :=
 z0y (S := z0x.xe) (X := z2h) z8t (h := .no) (z0d [] (by kernel_rfl) trivial) (z0a z0x) zgs z2e (fun s => by kernel_rfl)
def z9h : Shp := ⟨128, 0, [(5, .c .nilp), (7, .pt 0 r6 []), (10, .d (.int .i64))], [.var 75 (.ag [.c .nilp, .d c4, .d (.sl (.int .u8)), .d (.int .i64), .d .bool])]⟩
def z9l : Shp := ⟨128, 0, [(4, .d .bool)], []⟩
def z1o : XS := .or (.exit 0) z9h.xe (.one .ret z9l.xe)
theorem zfm : z1o.OK := XS.or_ok (z0a z9h) (XS.one_ok (z0a z9l))
def z0r : Shp := ⟨128, 0, [(5, .c .nilp), (7, .pt 0 r6 []), (10, .d (.int .i64)), (51, .d c5), (52, .d (.int .i64)), (53, .d (.int .i64))], [.var 75 (.ag [.c .nilp, .d c4, .d (.sl (.int .u8)), .d (.int .i64), .d .bool])]⟩
abbrev z5d := Int × (List (List Int)) × Int × Int × T2 × (List Int) × Int × Bool
abbrev za8 := (Int × T2 × (List Int) × Int × Bool) ⊕ (Bool)
def zh0 (room : Int) (t51 : List (List Int)) (t52 : Int) (t53 : Int) (j : T2) (j2 : List Int) (j3 : Int) (j4 : Bool) : Option (z5d ⊕ za8) :=
 bif ltI t53 t52 then
 (idxI t51 t53).bind fun x =>
 (zjr ([x] : List (List Int))).bind fun r =>
 z0i (List.length r) (
 (z4i j j2 j3 j4).bind fun r2 =>
 (z4r).bind fun r3 =>
 (zfq ([x] : List (List Int)) j j2 j3 j4).bind fun r4 =>
 bif !((eqI r4.1 0) == (leI (List.length r : Nat) r2)) then
 some (.inr (.inr false))
 else
 bif eqI r4.1 0 then
 (z4i r4.2.1 r4.2.2.1 r4.2.2.2.1 r4.2.2.2.2).bind fun r5 =>
 bif neI r5 (W64 (r2 - (List.length r : Nat))) then
 some (.inr (.inr false))
 else
 bif neI r4.1 0 then
 bif neI r4.1 5 then
 some (.inr (.inr false))
 else
 (z4i r4.2.1 r4.2.2.1 r4.2.2.2.1 r4.2.2.2.2).bind fun r6 =>
 bif neI r6 r2 then
 some (.inr (.inr false))
 else
 (z4r).bind fun r7 =>
 bif neI r7 r3 then
 some (.inr (.inr false))
 else
 some (.inl (room, t51, t52, W64 (t53 + 1), r4.2.1, r4.2.2.1, r4.2.2.2.1, r4.2.2.2.2))
 else
 some (.inl (room, t51, t52, W64 (t53 + 1), r4.2.1, r4.2.2.1, r4.2.2.2.1, r4.2.2.2.2))
 else
 bif neI r4.1 0 then
 bif neI r4.1 5 then
 some (.inr (.inr false))
 else
 (z4i r4.2.1 r4.2.2.1 r4.2.2.2.1 r4.2.2.2.2).bind fun r8 =>
 bif neI r8 r2 then
 some (.inr (.inr false))
 else
 (z4r).bind fun r9 =>
 bif neI r9 r3 then
 some (.inr (.inr false))
 else
 some (.inl (room, t51, t52, W64 (t53 + 1), r4.2.1, r4.2.2.1, r4.2.2.2.1, r4.2.2.2.2))
 else
 some (.inl (room, t51, t52, W64 (t53 + 1), r4.2.1, r4.2.2.1, r4.2.2.2.1, r4.2.2.2.2)))
 else
 some (.inr (.inl (room, j, j2, j3, j4)))
def z1p (s : z5d) : Option (z5d ⊕ za8) := zh0 s.1 s.2.1 s.2.2.1 s.2.2.2.1 s.2.2.2.2.1 s.2.2.2.2.2.1 s.2.2.2.2.2.2.1 s.2.2.2.2.2.2.2
theorem zfx : SoundD Try.prog (.loop (subC (bodyC Try.f5) [1, 1, 1, 1, 1, 1, 0, 1, 0, 0])) (loopD z0r.xe z1o (loopC z1p)) :=
 z0y (S := z0r.xe) (X := z1o) z8t (h := .no) (z0d [] (by kernel_rfl) trivial) (z0a z0r) zfm z1p (fun s => by kernel_rfl)
def zft : Shp := ⟨128, 0, [(0, .d (.int .i64)), (1, .d c5), (5, .pt 0 r0 []), (7, .c .nilp), (9, .d (.int .i64))], [.var 71 (.ag [.wn 1 c1, .d c2, .d (.int .i64), .d c3, .d (.int .i64), .d .bool]), .row 86 c1]⟩
def zfu : Shp := ⟨128, 0, [(0, .d (.int .i64)), (1, .d c5), (5, .pt 0 r0 []), (7, .pt 1 r6 []), (9, .d (.int .i64))], [.var 71 (.ag [.wn 2 c1, .d c2, .d (.int .i64), .d c3, .d (.int .i64), .d .bool]), .var 75 (.ag [.pt 0 r0 [], .d c4, .d (.sl (.int .u8)), .d (.int .i64), .d .bool]), .row 86 c1]⟩
def zbu : XS := .or .normal zft.xe (.one .normal zfu.xe)
theorem zq8 : zbu.OK := XS.or_ok (z0a zft) (XS.one_ok (z0a zfu))
def z9k : Shp := ⟨128, 0, [(5, .pt 0 r0 []), (7, .c .nilp), (10, .d (.int .i64))], [.var 71 (.ag [.wn 1 c1, .d c2, .d (.int .i64), .d c3, .d (.int .i64), .d .bool]), .row 86 c1]⟩
def z9j : Shp := ⟨128, 0, [(4, .d .bool)], []⟩
def z1q : XS := .or (.exit 0) z9k.xe (.one .ret z9j.xe)
theorem zfe : z1q.OK := XS.or_ok (z0a z9k) (XS.one_ok (z0a z9j))
def z0s : Shp := ⟨128, 0, [(5, .pt 0 r0 []), (7, .c .nilp), (10, .d (.int .i64)), (51, .d c5), (52, .d (.int .i64)), (53, .d (.int .i64))], [.var 71 (.ag [.wn 1 c1, .d c2, .d (.int .i64), .d c3, .d (.int .i64), .d .bool]), .row 86 c1]⟩
abbrev z5f := Int × (List (List Int)) × Int × Int × (List T0) × Int × T1 × Int × Bool × (List (List Int))
abbrev za2 := (Int × (List T0) × Int × T1 × Int × Bool × (List (List Int))) ⊕ (Bool)
def zhc (room : Int) (t51 : List (List Int)) (t52 : Int) (t53 : Int) (d : List T0) (d2 : Int) (d3 : T1) (d4 : Int) (d5 : Bool) (d6 : List (List Int)) : Option (z5f ⊕ za2) :=
 bif ltI t53 t52 then
 (idxI t51 t53).bind fun x =>
 (zjr ([x] : List (List Int))).bind fun r =>
 z0i (List.length r) (
 (z0u).bind fun r2 =>
 winK d6 0 (List.length d6) fun w =>
 (z2o (w, d, d2, d3, d4, d5)).bind fun r3 =>
 (zf1 ([x] : List (List Int))).bind fun r4 =>
 bif !((eqI r4 0) == (leI (List.length r : Nat) r2)) then
 some (.inr (.inr false))
 else
 bif eqI r4 0 then
 (z0u).bind fun r5 =>
 bif neI r5 (W64 (r2 - (List.length r : Nat))) then
 some (.inr (.inr false))
 else
 bif neI r4 0 then
 bif neI r4 5 then
 some (.inr (.inr false))
 else
 (z0u).bind fun r6 =>
 bif neI r6 r2 then
 some (.inr (.inr false))
 else
 winK d6 0 (List.length d6) fun w2 =>
 (z2o (w2, d, d2, d3, d4, d5)).bind fun r7 =>
 bif neI r7 r3 then
 some (.inr (.inr false))
 else
 bif Nat.beq (List.length d6) (List.length d6) then
 some (.inl (room, t51, t52, W64 (t53 + 1), d, d2, d3, d4, d5, d6))
 else none
 else
 bif Nat.beq (List.length d6) (List.length d6) then
 some (.inl (room, t51, t52, W64 (t53 + 1), d, d2, d3, d4, d5, d6))
 else none
 else
 bif neI r4 0 then
 bif neI r4 5 then
 some (.inr (.inr false))
 else
 (z0u).bind fun r8 =>
 bif neI r8 r2 then
 some (.inr (.inr false))
 else
 winK d6 0 (List.length d6) fun w3 =>
 (z2o (w3, d, d2, d3, d4, d5)).bind fun r9 =>
 bif neI r9 r3 then
 some (.inr (.inr false))
 else
 bif Nat.beq (List.length d6) (List.length d6) then
 some (.inl (room, t51, t52, W64 (t53 + 1), d, d2, d3, d4, d5, d6))
 else none
 else
 bif Nat.beq (List.length d6) (List.length d6) then
 some (.inl (room, t51, t52, W64 (t53 + 1), d, d2, d3, d4, d5, d6))
 else none)
 else
 bif Nat.beq (List.length d6) (List.length d6) then
 some (.inr (.inl (room, d, d2, d3, d4, d5, d6)))
 else none
def z1v (s : z5f) : Option (z5f ⊕ za2) := zhc s.1 s.2.1 s.2.2.1 s.2.2.2.1 s.2.2.2.2.1 s.2.2.2.2.2.1 s.2.2.2.2.2.2.1 s.2.2.2.2.2.2.2.1 s.2.2.2.2.2.2.2.2.1 s.2.2.2.2.2.2.2.2.2
theorem zfv : SoundD Try.prog (.loop (subC (bodyC Try.f5) [1, 1, 1, 1, 1, 1, 0, 1, 0, 0])) (loopD z0s.xe z1q (loopC z1v)) :=
 z0y (S := z0s.xe) (X := z1q) z8t (h := .no) (z0d [] (by kernel_rfl) trivial) (z0a z0s) zfe z1v (fun s => by kernel_rfl)
def z9g : Shp := ⟨128, 0, [(5, .pt 0 r0 []), (7, .pt 1 r6 []), (10, .d (.int .i64))], [.var 71 (.ag [.wn 2 c1, .d c2, .d (.int .i64), .d c3, .d (.int .i64), .d .bool]), .var 75 (.ag [.pt 0 r0 [], .d c4, .d (.sl (.int .u8)), .d (.int .i64), .d .bool]), .row 86 c1]⟩
def z9i : Shp := ⟨128, 0, [(4, .d .bool)], []⟩
def z1t : XS := .or (.exit 0) z9g.xe (.one .ret z9i.xe)
theorem zfc : z1t.OK := XS.or_ok (z0a z9g) (XS.one_ok (z0a z9i))
def z1u : Shp := ⟨128, 0, [(5, .pt 0 r0 []), (7, .pt 1 r6 []), (10, .d (.int .i64)), (51, .d c5), (52, .d (.int .i64)), (53, .d (.int .i64))], [.var 71 (.ag [.wn 2 c1, .d c2, .d (.int .i64), .d c3, .d (.int .i64), .d .bool]), .var 75 (.ag [.pt 0 r0 [], .d c4, .d (.sl (.int .u8)), .d (.int .i64), .d .bool]), .row 86 c1]⟩
abbrev z5p := Int × (List (List Int)) × Int × Int × (List T0) × Int × T1 × Int × Bool × T2 × (List Int) × Int × Bool × (List (List Int))
abbrev za5 := (Int × (List T0) × Int × T1 × Int × Bool × T2 × (List Int) × Int × Bool × (List (List Int))) ⊕ (Bool)
def z1r (room : Int) (t51 : List (List Int)) (t52 : Int) (t53 : Int) (d : List T0) (d2 : Int) (d3 : T1) (d4 : Int) (d5 : Bool) (j : T2) (j2 : List Int) (j3 : Int) (j4 : Bool) (d6 : List (List Int)) : Option (z5p ⊕ za5) :=
 bif ltI t53 t52 then
 (idxI t51 t53).bind fun x =>
 (zjr ([x] : List (List Int))).bind fun r =>
 z0i (List.length r) (
 winK d6 0 (List.length d6) fun w =>
 (z1h (w, d, d2, d3, d4, d5) j j2 j3 j4).bind fun r2 =>
 winK d6 0 (List.length d6) fun w2 =>
 (z2o (w2, d, d2, d3, d4, d5)).bind fun r3 =>
 bif Nat.beq (List.length d6) (List.length d6) then
 (z6m ([x] : List (List Int)) j j2 j3 j4 d d2 d3 d4 d5 d6).bind fun r4 =>
 bif !((eqI r4.1 0) == (leI (List.length r : Nat) r2)) then
 some (.inr (.inr false))
 else
 bif eqI r4.1 0 then
 winK r4.2.2.2.2.2.2.2.2.2.2 0 (List.length r4.2.2.2.2.2.2.2.2.2.2) fun w3 =>
 (z1h (w3, r4.2.2.2.2.2.1, r4.2.2.2.2.2.2.1, r4.2.2.2.2.2.2.2.1, r4.2.2.2.2.2.2.2.2.1, r4.2.2.2.2.2.2.2.2.2.1) r4.2.1 r4.2.2.1 r4.2.2.2.1 r4.2.2.2.2.1).bind fun r5 =>
 bif neI r5 (W64 (r2 - (List.length r : Nat))) then
 some (.inr (.inr false))
 else
 bif neI r4.1 0 then
 bif neI r4.1 5 then
 some (.inr (.inr false))
 else
 winK r4.2.2.2.2.2.2.2.2.2.2 0 (List.length r4.2.2.2.2.2.2.2.2.2.2) fun w4 =>
 (z1h (w4, r4.2.2.2.2.2.1, r4.2.2.2.2.2.2.1, r4.2.2.2.2.2.2.2.1, r4.2.2.2.2.2.2.2.2.1, r4.2.2.2.2.2.2.2.2.2.1) r4.2.1 r4.2.2.1 r4.2.2.2.1 r4.2.2.2.2.1).bind fun r6 =>
 bif neI r6 r2 then
 some (.inr (.inr false))
 else
 winK r4.2.2.2.2.2.2.2.2.2.2 0 (List.length r4.2.2.2.2.2.2.2.2.2.2) fun w5 =>
 (z2o (w5, r4.2.2.2.2.2.1, r4.2.2.2.2.2.2.1, r4.2.2.2.2.2.2.2.1, r4.2.2.2.2.2.2.2.2.1, r4.2.2.2.2.2.2.2.2.2.1)).bind fun r7 =>
 bif neI r7 r3 then
 some (.inr (.inr false))
 else
 bif Nat.beq (List.length r4.2.2.2.2.2.2.2.2.2.2) (List.length r4.2.2.2.2.2.2.2.2.2.2) then
 some (.inl (room, t51, t52, W64 (t53 + 1), r4.2.2.2.2.2.1, r4.2.2.2.2.2.2.1, r4.2.2.2.2.2.2.2.1, r4.2.2.2.2.2.2.2.2.1, r4.2.2.2.2.2.2.2.2.2.1, r4.2.1, r4.2.2.1, r4.2.2.2.1, r4.2.2.2.2.1, r4.2.2.2.2.2.2.2.2.2.2))
 else none
 else
 bif Nat.beq (List.length r4.2.2.2.2.2.2.2.2.2.2) (List.length r4.2.2.2.2.2.2.2.2.2.2) then
 some (.inl (room, t51, t52, W64 (t53 + 1), r4.2.2.2.2.2.1, r4.2.2.2.2.2.2.1, r4.2.2.2.2.2.2.2.1, r4.2.2.2.2.2.2.2.2.1, r4.2.2.2.2.2.2.2.2.2.1, r4.2.1, r4.2.2.1, r4.2.2.2.1, r4.2.2.2.2.1, r4.2.2.2.2.2.2.2.2.2.2))
 else none
 else
 bif neI r4.1 0 then
 bif neI r4.1 5 then
 some (.inr (.inr false))
 else
 winK r4.2.2.2.2.2.2.2.2.2.2 0 (List.length r4.2.2.2.2.2.2.2.2.2.2) fun w6 =>
 (z1h (w6, r4.2.2.2.2.2.1, r4.2.2.2.2.2.2.1, r4.2.2.2.2.2.2.2.1, r4.2.2.2.2.2.2.2.2.1, r4.2.2.2.2.2.2.2.2.2.1) r4.2.1 r4.2.2.1 r4.2.2.2.1 r4.2.2.2.2.1).bind fun r8 =>
 bif neI r8 r2 then
 some (.inr (.inr false))
 else
 winK r4.2.2.2.2.2.2.2.2.2.2 0 (List.length r4.2.2.2.2.2.2.2.2.2.2) fun w7 =>
 (z2o (w7, r4.2.2.2.2.2.1, r4.2.2.2.2.2.2.1, r4.2.2.2.2.2.2.2.1, r4.2.2.2.2.2.2.2.2.1, r4.2.2.2.2.2.2.2.2.2.1)).bind fun r9 =>
 bif neI r9 r3 then
 some (.inr (.inr false))
 else
 bif Nat.beq (List.length r4.2.2.2.2.2.2.2.2.2.2) (List.length r4.2.2.2.2.2.2.2.2.2.2) then
 some (.inl (room, t51, t52, W64 (t53 + 1), r4.2.2.2.2.2.1, r4.2.2.2.2.2.2.1, r4.2.2.2.2.2.2.2.1, r4.2.2.2.2.2.2.2.2.1, r4.2.2.2.2.2.2.2.2.2.1, r4.2.1, r4.2.2.1, r4.2.2.2.1, r4.2.2.2.2.1, r4.2.2.2.2.2.2.2.2.2.2))
 else none
 else
 bif Nat.beq (List.length r4.2.2.2.2.2.2.2.2.2.2) (List.length r4.2.2.2.2.2.2.2.2.2.2) then
 some (.inl (room, t51, t52, W64 (t53 + 1), r4.2.2.2.2.2.1, r4.2.2.2.2.2.2.1, r4.2.2.2.2.2.2.2.1, r4.2.2.2.2.2.2.2.2.1, r4.2.2.2.2.2.2.2.2.2.1, r4.2.1, r4.2.2.1, r4.2.2.2.1, r4.2.2.2.2.1, r4.2.2.2.2.2.2.2.2.2.2))
 else none
 else none)
 else
 bif Nat.beq (List.length d6) (List.length d6) then
 some (.inr (.inl (room, d, d2, d3, d4, d5, j, j2, j3, j4, d6)))
 else none
def z1c (s : z5p) : Option (z5p ⊕ za5) := z1r s.1 s.2.1 s.2.2.1 s.2.2.2.1 s.2.2.2.2.1 s.2.2.2.2.2.1 s.2.2.2.2.2.2.1 s.2.2.2.2.2.2.2.1 s.2.2.2.2.2.2.2.2.1 s.2.2.2.2.2.2.2.2.2.1 s.2.2.2.2.2.2.2.2.2.2.1 s.2.2.2.2.2.2.2.2.2.2.2.1 s.2.2.2.2.2.2.2.2.2.2.2.2.1 s.2.2.2.2.2.2.2.2.2.2.2.2.2
theorem zfw : SoundD Try.prog (.loop (subC (bodyC Try.f5) [1, 1, 1, 1, 1, 1, 0, 1, 0, 0])) (loopD z1u.xe z1t (loopC z1c)) :=
 z0y (S := z1u.xe) (X := z1t) z8t (h := .no) (z0d [] (by kernel_rfl) trivial) (z0a z1u) zfc z1c (fun s => by kernel_rfl)
def zoi : Shp := ⟨1, 0, [(0, .d .bool)], []⟩
def zqf : XS := .one .ret zoi.xe
theorem zzy : zqf.OK := XS.one_ok (z0a zoi)
def zmd (sectors : Int) (l : List (List Int)) : Option ((Bool)) :=
 (zhn).bind fun r =>
 bif !r then
 (zhn).bind fun r2 =>
 some r2
 else
 (zuv sectors ([(0, l, 0, ([], 0, 0))] : List T4)).bind fun r3 =>
 bif !r3 then
 (zhn).bind fun r4 =>
 some r4
 else
 (show Option ((Int × (List (List Int))) ⊕ (Int × (List (List Int)) × (List T0) × Int × T1 × Int × Bool × (List (List Int)))) from
 (zfk sectors).bind fun r5 =>
 Sum.elim (fun y =>
 some (.inl (sectors, l))) (fun y2 =>
 bif Nat.beq (List.length y2.2.2.2.2.2.2) (List.length y2.2.2.2.2.2.2) then
 some (.inr (sectors, l, y2.2.1, y2.2.2.1, y2.2.2.2.1, y2.2.2.2.2.1, y2.2.2.2.2.2.1, y2.2.2.2.2.2.2))
 else none) r5).bind fun j =>
 Sum.elim (fun y3 =>
 (show Option ((Int × (List (List Int)) × Int) ⊕ (Int × (List (List Int)) × Int × T2 × (List Int) × Int × Bool)) from
 (zl5).bind fun r6 =>
 Sum.elim (fun y5 =>
 some (.inl (y3.1, y3.2, y5.2))) (fun y6 =>
 some (.inr (y3.1, y3.2, y6.1, y6.2.1, y6.2.2.1, y6.2.2.2.1, y6.2.2.2.2.1))) r6).bind fun j2 =>
 Sum.elim (fun y7 =>
 bif neI y7.2.2 0 then
 some false
 else
 (z0u).bind fun r7 =>
 bif neI r7 (W64 ((W64 (Int.tdiv (W64 (y7.1 - 2)) 2)) * 256)) then
 some false
 else
 z0i (List.length y7.2.1) (
 (loopC z2e ((W64 ((W64 (Int.tdiv (W64 (y7.1 - 2)) 2)) * 256), y7.2.1, (List.length y7.2.1 : Nat), 0))).bind fun o =>
 Sum.elim (fun y9 =>
 (zc5 []).bind fun r8 =>
 bif eqI r8 0 then
 (z0u).bind fun r9 =>
 bif eqI r9 y9 then
 (zf8).bind fun r10 =>
 bif eqI r10 0 then
 (zf9).bind fun r11 =>
 some (eqI r11 0)
 else
 some false
 else
 some false
 else
 some false) (fun y10 =>
 some y10) o)) (fun y8 =>
 bif neI y8.2.2.1 0 then
 some false
 else
 (z4i y8.2.2.2.1 y8.2.2.2.2.1 y8.2.2.2.2.2.1 y8.2.2.2.2.2.2).bind fun r12 =>
 bif neI r12 (W64 ((W64 (Int.tdiv (W64 (y8.1 - 2)) 2)) * 256)) then
 some false
 else
 z0i (List.length y8.2.1) (
 (loopC z1p ((W64 ((W64 (Int.tdiv (W64 (y8.1 - 2)) 2)) * 256), y8.2.1, (List.length y8.2.1 : Nat), 0, y8.2.2.2.1, y8.2.2.2.2.1, y8.2.2.2.2.2.1, y8.2.2.2.2.2.2))).bind fun o2 =>
 Sum.elim (fun y11 =>
 (zia [] y11.2.1 y11.2.2.1 y11.2.2.2.1 y11.2.2.2.2).bind fun r13 =>
 bif eqI r13.1 0 then
 (z4i r13.2.1 r13.2.2.1 r13.2.2.2.1 r13.2.2.2.2).bind fun r14 =>
 bif eqI r14 y11.1 then
 (zhs r13.2.1 r13.2.2.1 r13.2.2.2.1 r13.2.2.2.2).bind fun r15 =>
 bif eqI r15 0 then
 (zf9).bind fun r16 =>
 some (eqI r16 0)
 else
 some false
 else
 some false
 else
 some false) (fun y12 =>
 some y12) o2)) j2) (fun y4 =>
 (show Option ((Int × (List (List Int)) × Int × (List T0) × Int × T1 × Int × Bool × (List (List Int))) ⊕ (Int × (List (List Int)) × Int × (List T0) × Int × T1 × Int × Bool × T2 × (List Int) × Int × Bool × (List (List Int)))) from
 bif Nat.beq (List.length y4.2.2.2.2.2.2.2) (List.length y4.2.2.2.2.2.2.2) then
 (z5s y4.2.2.1 y4.2.2.2.1 y4.2.2.2.2.1 y4.2.2.2.2.2.1 y4.2.2.2.2.2.2.1 y4.2.2.2.2.2.2.2).bind fun r17 =>
 Sum.elim (fun y13 =>
 bif Nat.beq (List.length y13.2.2.2.2.2.2.2) (List.length y13.2.2.2.2.2.2.2) then
 some (.inl (y4.1, y4.2.1, y13.2.1, y13.2.2.1, y13.2.2.2.1, y13.2.2.2.2.1, y13.2.2.2.2.2.1, y13.2.2.2.2.2.2.1, y13.2.2.2.2.2.2.2))
 else none) (fun y14 =>
 bif Nat.beq (List.length y14.2.2.2.2.2.2.2.2.2.2.2) (List.length y14.2.2.2.2.2.2.2.2.2.2.2) then
 some (.inr (y4.1, y4.2.1, y14.1, y14.2.1, y14.2.2.1, y14.2.2.2.1, y14.2.2.2.2.1, y14.2.2.2.2.2.1, y14.2.2.2.2.2.2.1, y14.2.2.2.2.2.2.2.1, y14.2.2.2.2.2.2.2.2.1, y14.2.2.2.2.2.2.2.2.2.1, y14.2.2.2.2.2.2.2.2.2.2.2))
 else none) r17
 else none).bind fun j3 =>
 Sum.elim (fun y15 =>
 bif neI y15.2.2.1 0 then
 some false
 else
 (z0u).bind fun r18 =>
 bif neI r18 (W64 ((W64 (Int.tdiv (W64 (y15.1 - 2)) 2)) * 256)) then
 some false
 else
 z0i (List.length y15.2.1) (
 bif Nat.beq (List.length y15.2.2.2.2.2.2.2.2) (List.length y15.2.2.2.2.2.2.2.2) then
 (loopC z1v ((W64 ((W64 (Int.tdiv (W64 (y15.1 - 2)) 2)) * 256), y15.2.1, (List.length y15.2.1 : Nat), 0, y15.2.2.2.1, y15.2.2.2.2.1, y15.2.2.2.2.2.1, y15.2.2.2.2.2.2.1, y15.2.2.2.2.2.2.2.1, y15.2.2.2.2.2.2.2.2))).bind fun o3 =>
 Sum.elim (fun y17 =>
 (zc5 []).bind fun r19 =>
 bif eqI r19 0 then
 (z0u).bind fun r20 =>
 bif eqI r20 y17.1 then
 (zf8).bind fun r21 =>
 bif eqI r21 0 then
 winK y17.2.2.2.2.2.2 0 (List.length y17.2.2.2.2.2.2) fun w =>
 (zbk (w, y17.2.1, y17.2.2.1, y17.2.2.2.1, y17.2.2.2.2.1, y17.2.2.2.2.2.1)).bind fun r22 =>
 some (eqI r22 0)
 else
 some false
 else
 some false
 else
 some false) (fun y18 =>
 some y18) o3
 else none)) (fun y16 =>
 bif neI y16.2.2.1 0 then
 some false
 else
 winK y16.2.2.2.2.2.2.2.2.2.2.2.2 0 (List.length y16.2.2.2.2.2.2.2.2.2.2.2.2) fun w2 =>
 (z1h (w2, y16.2.2.2.1, y16.2.2.2.2.1, y16.2.2.2.2.2.1, y16.2.2.2.2.2.2.1, y16.2.2.2.2.2.2.2.1) y16.2.2.2.2.2.2.2.2.1 y16.2.2.2.2.2.2.2.2.2.1 y16.2.2.2.2.2.2.2.2.2.2.1 y16.2.2.2.2.2.2.2.2.2.2.2.1).bind fun r23 =>
 bif neI r23 (W64 ((W64 (Int.tdiv (W64 (y16.1 - 2)) 2)) * 256)) then
 some false
 else
 z0i (List.length y16.2.1) (
 bif Nat.beq (List.length y16.2.2.2.2.2.2.2.2.2.2.2.2) (List.length y16.2.2.2.2.2.2.2.2.2.2.2.2) then
 (loopC z1c ((W64 ((W64 (Int.tdiv (W64 (y16.1 - 2)) 2)) * 256), y16.2.1, (List.length y16.2.1 : Nat), 0, y16.2.2.2.1, y16.2.2.2.2.1, y16.2.2.2.2.2.1, y16.2.2.2.2.2.2.1, y16.2.2.2.2.2.2.2.1, y16.2.2.2.2.2.2.2.2.1, y16.2.2.2.2.2.2.2.2.2.1, y16.2.2.2.2.2.2.2.2.2.2.1, y16.2.2.2.2.2.2.2.2.2.2.2.1, y16.2.2.2.2.2.2.2.2.2.2.2.2))).bind fun o4 =>
 Sum.elim (fun y19 =>
 bif Nat.beq (List.length y19.2.2.2.2.2.2.2.2.2.2) (List.length y19.2.2.2.2.2.2.2.2.2.2) then
 (z6e [] y19.2.2.2.2.2.2.1 y19.2.2.2.2.2.2.2.1 y19.2.2.2.2.2.2.2.2.1 y19.2.2.2.2.2.2.2.2.2.1 y19.2.1 y19.2.2.1 y19.2.2.2.1 y19.2.2.2.2.1 y19.2.2.2.2.2.1 y19.2.2.2.2.2.2.2.2.2.2).bind fun r24 =>
 bif eqI r24.1 0 then
 winK r24.2.2.2.2.2.2.2.2.2.2 0 (List.length r24.2.2.2.2.2.2.2.2.2.2) fun w3 =>
 (z1h (w3, r24.2.2.2.2.2.1, r24.2.2.2.2.2.2.1, r24.2.2.2.2.2.2.2.1, r24.2.2.2.2.2.2.2.2.1, r24.2.2.2.2.2.2.2.2.2.1) r24.2.1 r24.2.2.1 r24.2.2.2.1 r24.2.2.2.2.1).bind fun r25 =>
 bif eqI r25 y19.1 then
 winK r24.2.2.2.2.2.2.2.2.2.2 0 (List.length r24.2.2.2.2.2.2.2.2.2.2) fun w4 =>
 (z8y (w4, r24.2.2.2.2.2.1, r24.2.2.2.2.2.2.1, r24.2.2.2.2.2.2.2.1, r24.2.2.2.2.2.2.2.2.1, r24.2.2.2.2.2.2.2.2.2.1) r24.2.1 r24.2.2.1 r24.2.2.2.1 r24.2.2.2.2.1).bind fun r26 =>
 bif eqI r26 0 then
 winK r24.2.2.2.2.2.2.2.2.2.2 0 (List.length r24.2.2.2.2.2.2.2.2.2.2) fun w5 =>
 (zbk (w5, r24.2.2.2.2.2.1, r24.2.2.2.2.2.2.1, r24.2.2.2.2.2.2.2.1, r24.2.2.2.2.2.2.2.2.1, r24.2.2.2.2.2.2.2.2.2.1)).bind fun r27 =>
 some (eqI r27 0)
 else
 some false
 else
 some false
 else
 some false
 else none) (fun y20 =>
 some y20) o4
 else none)) j3) j
def z15d : Sig := ⟨5, [.d (.int .i64), .d c5], [], 0, zqf⟩
def zpg (x : Int × (List (List Int))) : Option ((Bool)) := zmd x.1 x.2
theorem z13j : FnOK Try.prog z15d zpg :=
 fn_ok z8t (h := (.two .no (.two .no (.join (fun _ => zej) .no (.join (altX zij.fit (fun _ => zcj) (fun _ => zbu)) .no (.two .no (.two .no (.two (.two .no (.over (altD z0x.fit (loopD z0x.xe z2h (loopC z2e)) (altD z0r.fit (loopD z0r.xe z1o (loopC z1p)) (altD z0s.fit (loopD z0s.xe z1q (loopC z1v)) (loopD z1u.xe z1t (loopC z1c))))))) .no)))))))) Try.func5 (z0d [.xs (fun _ => zej), .xs (altX zij.fit (fun _ => zcj) (fun _ => zbu)), .den (.loop (subC (bodyC Try.f5) [1, 1, 1, 1, 1, 1, 0, 1, 0, 0])) (altD z0x.fit (loopD z0x.xe z2h (loopC z2e)) (altD z0r.fit (loopD z0r.xe z1o (loopC z1p)) (altD z0s.fit (loopD z0s.xe z1q (loopC z1v)) (loopD z1u.xe z1t (loopC z1c)))))] (by kernel_rfl) ⟨(za1 zvk), (z1e8 (za1 zs9) (za1 zq8)), (z1dj zhe (z1dj zfx (z1dj zfv zfw))), trivial⟩) (by kernel_rfl) zzy (fun x => by kernel_rfl)
end Go.Proofs.Ytpfjfldagldgnaa
set_option linter.unusedVariables false
set_option linter.unusedSimpArgs false
namespace Go.Proofs.Ytpfjfldagldgnaa
open Go.Tm Go.Ab
theorem z1rr (x : List Int) (h : x.length ≤ 1000000) : Ok (zz6 x) fun _ => True := by
 unfold zz6
 refine zl7 (z11i (Q := fun _ => True) x.length (fun i (a : Int × Int) => (x, a.1, a.2, (i : Int))) (fun _ _ => True) (1, 0) rfl trivial ?_ ?_) fun r _ => z2a trivial
 · intro a _
   show Ok (z8m x a.1 a.2 ((x.length : Nat) : Int)) _
   unfold z8m
   refine qs ?_
   rw [ltI_f (Int.lt_irrefl _)]
   exact zny (z2a (zey trivial))
 · intro i a hi _
   show Ok (z8m x a.1 a.2 (i : Int)) _
   unfold z8m
   refine qs ?_
   rw [ltI_t (by omega)]
   refine zvu (qx hi (z2a (zr2 ⟨(W64 (a.1 + W64 x[i]), W64 (a.2 + Int.tmod (W64 (a.1 + W64 x[i])) 65521)), ?_, trivial⟩)))
   rw [zag (by omega)]
theorem z1pn (x : List Int) (h : x.length ≤ 1000000) : Ok (zuj x) fun r => r.length = x.length + 4 := by
 unfold zuj
 refine zl7 (z1rr x h) fun r _ => ?_
 refine qc (z2a ?_)
 simp
theorem z1om (x : List Int) (h : x.length ≤ 65535) : Ok (zrq x) fun r => r.1.length = x.length + (if x.length < 255 then 1 else 3) := by
 unfold zrq
 refine qs ?_
 refine ok_lt (fun h => by omega) fun _ => ?_
 refine ok_lt (fun h1 => ?_) fun h1 => ?_
 · refine qc (z2a ?_)
   rw [if_pos (by omega)]; simp
 · refine qc (z2a ?_)
   rw [if_neg (by omega)]; simp
theorem z1s6 (x : List Int) (h : x.length ≤ 2000) : Ok (zjr [x]) fun r => r.length = (lieS [x]).length := by
 unfold zjr
 have e : (lieS [x]).length = (packF (sealS x)).length := by simp [lieS]
 refine zl7 (z11i (Q := fun r => r.length = (lieS [x]).length) 1 (fun i (a : List Int) => ([x], a, (i : Int))) (fun i a => (i = 0 → a = []) ∧ (i = 1 → a.length = (lieS [x]).length)) [] rfl ⟨fun _ => rfl, fun h => by omega⟩ ?_ ?_) fun r hr => z2a hr
 · intro a ha
   show Ok (z8n [x] a ((1 : Nat) : Int)) _
   unfold z8n
   refine z1b4 (by simp) ?_
   rw [ltI_f (by simp)]
   exact zny (z2a (zey (ha.2 rfl)))
 · intro i a hi ha
   have hi0 : i = 0 := by omega
   subst hi0
   have ha0 := ha.1 rfl
   subst ha0
   show Ok (z8n [x] [] ((0 : Nat) : Int)) _
   unfold z8n
   refine z1b4 (by simp) ?_
   rw [ltI_t (by simp)]
   refine zvu (qx (by simp) ?_)
   refine zl7 (z1pn x (by omega)) fun r hr => ?_
   refine zl7 (z1om r (by omega)) fun r2 hr2 => ?_
   refine z1on (by rw [hr2]; simp; split <;> omega) (z2a (zr2 ⟨[] ++ r2.1, ?_, fun h => by omega, fun _ => ?_⟩))
   · rfl
   · rw [List.nil_append, hr2, e, zgc, zb1, hr]
abbrev RmT := Int × List (List Int) × (Int × Int × Int) × List (List Int)
theorem z1mc {n : Nat} (hn : 6 ≤ n ∧ n ≤ 14) {l : List (List Int)} (hl : l.length ≤ 6) (h2 : ∀ y, y ∈ l → y.length ≤ 2000) (h3 : ∀ y, y ∈ l → isB y) (room : Int) :
   Ok (loopC z1c (room, l, ((l.length : Nat) : Int), 0, [], -1, ([], 0, 0), 2, false, (1, 0, 0), [], 0, false, new1 n))
     fun r => ∃ k nn s t rs, r = .inl (room, [], -1, ([], 0, 0), nn, false, t, lieS rs, (rs.length : Int), false, s) ∧ Jn k (-1) ([], 0, 0) nn s t rs ∧ k ≤ 30000 ∧ t.1 ≤ 10 ∧ s.length = n := by
 refine z11i l.length (fun i (a : RmT) => (room, l, ((l.length : Nat) : Int), (i : Int), [], -1, ([], 0, 0), a.1, false, a.2.2.1, lieS a.2.2.2, (a.2.2.2.length : Int), false, a.2.1))
   (fun i a => Jn (3 + 3000 * i) (-1) ([], 0, 0) a.1 a.2.1 a.2.2.1 a.2.2.2 ∧ a.2.2.1.1 ≤ 1 + (i : Int) ∧ a.2.1.length = n) (2, new1 n, (1, 0, 0), []) rfl ⟨z1ka n (by omega), by simp, zja n⟩ ?_ ?_
 · rintro ⟨nn, s, t, rs⟩ ⟨hj, ht, hs⟩
   simp only at hj ht hs
   show Ok (z1r room l ((l.length : Nat) : Int) ((l.length : Nat) : Int) [] (-1) ([], 0, 0) nn false t (lieS rs) (rs.length : Int) false s) _
   unfold z1r
   rw [ltI_f (Int.lt_irrefl _)]
   exact zny (qb (z2a (zey ⟨_, nn, s, t, rs, rfl, hj, by omega, by omega, hs⟩)))
 · rintro i ⟨nn, s, t, rs⟩ hi ⟨hj, ht, hs⟩
   simp only at hj ht hs
   have hy2 := h2 _ (List.getElem_mem hi)
   have hy3 := h3 _ (List.getElem_mem hi)
   have hrm := hj.room
   have hx := hj.lie.n
   have hrn : roomS s.length ≤ 1536 := by unfold roomS secS; omega
   have hrn0 : 0 ≤ roomS s.length := by unfold roomS secS; omega
   show Ok (z1r room l ((l.length : Nat) : Int) (i : Int) [] (-1) ([], 0, 0) nn false t (lieS rs) (rs.length : Int) false s) _
   unfold z1r
   rw [ltI_t (by omega)]
   refine zvu (qx hi ?_)
   generalize l[i] = y at *
   have hll : (lieS [y]).length = y.length + 4 + (if y.length + 4 < 255 then 1 else 3) := by simp only [lieS, List.map_cons, List.map_nil, List.flatten_cons, List.flatten_nil, List.append_nil, zgc, zb1]
   have hll2 : (lieS [y]).length ≤ 2007 := by rw [hll]; split <;> omega
   refine zl7 (z1s6 y hy2) fun r hr => ?_
   refine qs ?_ (by omega)
   rw [z1m, zqx (x := ([], -1, ([], 0, 0), nn, false, s)) (by simp only; omega) (j := (t, lieS rs, (rs.length : Int), false)) (by simp only; omega) s rfl]
   simp only [Option.bind_some, z1m]
   rw [z19f s ([], -1, ([], 0, 0), nn, false, s)]
   simp only [Option.bind_some, beq_self, cond_true]
   obtain ⟨q, e, ho⟩ := z1jt hj (by omega) (by omega) (l := [y]) (z1rw (by simp) (fun z hz => by rw [List.mem_singleton.1 hz]; exact hy2) fun z hz => by rw [List.mem_singleton.1 hz]; exact hy3) (z1mp fun z hz => by rw [List.mem_singleton.1 hz]; exact hy2) (by simp)
   rw [e]
   have hcat : (lieS (rs ++ [y])).length = (lieS rs).length + (lieS [y]).length := by rw [z12k, List.length_append]
   rcases ho with ⟨e2, h1⟩ | ⟨left', nn', s', e2, h1, hj', h4⟩ | ⟨h0, _⟩
   · rw [e2]
     simp only [flatJ, Option.bind_some]
     rw [eqI_f (by decide), leI_f (by omega), neI_t (by decide), zxs]
     simp only [beq_self_eq_true, Bool.not_true, cond_false, cond_true, z1m]
     rw [zqx (x := ([], -1, ([], 0, 0), nn, false, s)) (by simp only; omega) (j := (t, lieS rs, (rs.length : Int), false)) (by simp only; omega) s rfl]
     simp only [Option.bind_some, zxs, cond_false]
     rw [z19f s ([], -1, ([], 0, 0), nn, false, s)]
     simp only [Option.bind_some, zxs, cond_false, beq_self, cond_true]
     refine z2a (zr2 ⟨(nn, s, t, rs), by rw [zag (by omega)], ⟨hj.dv.mono (by omega) (by omega), hj.lie, hj.st, hj.recs⟩, by simp only; omega, hs⟩)
   · have hl' := h4 (by omega)
     subst hl'
     have hrm' := hj'.room.2
     rw [h1] at hrm'
     rw [e2]
     simp only [flatJ, Option.bind_some]
     rw [z1gt, leI_t (by omega), zxs]
     simp only [beq_self_eq_true, Bool.not_true, cond_false, cond_true, z1m]
     rw [zqx (x := ([], -1, ([], 0, 0), nn', false, s')) (by simp only; omega) (j := ((t.1 + 1, t.2.1, ((lieS (rs ++ [y])).length : Int)), lieS (rs ++ [y]), ((rs ++ [y]).length : Int), false)) (by simp only; omega) s' rfl]
     simp only [Option.bind_some]
     rw [neI_f (by rw [h1, z1e (by omega), hcat]; omega)]
     simp only [cond_false, beq_self, cond_true]
     refine z2a (zr2 ⟨(nn', s', (t.1 + 1, t.2.1, ((lieS (rs ++ [y])).length : Int)), rs ++ [y]), by rw [zag (by omega)], ?_, by simp only; omega, by simp only; omega⟩)
     have : 3 + 3000 * i + 3000 = 3 + 3000 * (i + 1) := by omega
     simp only
     rw [← this]; exact hj'
   · omega
theorem z1ob (n : Int) (l : List (List Int)) (h3 : ∀ y, y ∈ l → isB y) (hlen : l.length ≤ 9223372036854775807 ∧ ∀ y, y ∈ l → y.length ≤ 9223372036854775807) : zmd n l = some true := by
 unfold zmd
 rw [z1pk]
 simp only [Option.bind_some, Bool.not_true, cond_false]
 obtain ⟨b, hb, hfit⟩ := z1qx n [(0, l, 0, ([], 0, 0))] (by simp) (fun o ho => by rw [List.mem_singleton.1 ho]; exact ⟨hlen.1, by simp, hlen.2⟩)
 rw [hb]
 simp only [Option.bind_some]
 cases b with
 | false => rfl
 | true =>
   obtain ⟨n1, n2, _, hf⟩ := hfit rfl
   obtain ⟨f1, _, f2⟩ := hf _ (List.mem_singleton.2 rfl)
   simp only at f1 f2
   have hn : 6 ≤ n.toNat ∧ n.toNat ≤ 14 := by omega
   rw [z1mg n (by omega)]
   simp only [Option.bind_some, Bool.not_true, cond_false, Sum.elim_inr, beq_self, cond_true]
   rw [z1hc n.toNat (by omega)]
   simp only [Option.bind_some, Bool.not_true, cond_false, Sum.elim_inr, beq_self, cond_true, zxs, z1m]
   have hrm := z1dn n.toNat (by omega)
   have hroom : W64 (W64 (Int.tdiv (W64 (n - 2)) 2) * 256) = roomS n.toNat := by
     rw [z1e (n := n - 2) (by omega), Int.tdiv_eq_ediv_of_nonneg (by omega), z1e (n := (n - 2) / 2) (by omega), z1e (by omega)]
     unfold roomS secS; omega
   have hR := zqx (x := ([], -1, ([], 0, 0), 2, false, new1 n.toNat)) (by simp only; rw [zja]; omega) (j := ((1, 0, 0), [], 0, false)) (by simp) (new1 n.toNat) rfl
   simp only at hR
   rw [hR, hroom, zja]
   simp only [Option.bind_some]
   rw [neI_f (by simp)]
   simp only [cond_false]
   rw [z0n (by omega)]
   obtain ⟨r, hr, k, nn, s, t, rs, rfl, hj, hk, ht, hs⟩ := z1mc hn f1 f2 h3 (roomS n.toNat)
   rw [hr]
   simp only [Option.bind_some, Sum.elim_inl, beq_self, cond_true]
   obtain ⟨q, e, ho⟩ := z1ji hj (by omega) (by omega) (l := []) ⟨by simp, fun x hx => (by cases hx), by simp [lieS]⟩ (by rintro ⟨x, hx, _⟩; cases hx)
   rw [e]
   rcases ho with ⟨e2, h1⟩ | ⟨left', nn', s', e2, h1, hj', h4⟩ | ⟨h0, _⟩
   · exfalso
     rw [show ((lieS []).length : Int) = 0 from rfl, hs] at h1
     omega
   · have hl' := h4 (by omega)
     subst hl'
     rw [e2]
     simp only [flatJ, Option.bind_some, z1gt, cond_true, z1m]
     rw [show (lieS [] : List Int) = [] from rfl]
     rw [zqx (x := ([], -1, ([], 0, 0), nn', false, s')) (by simp only; omega) (j := ((t.1 + 1, 1 - t.2.1, ((List.length ([] : List Int) : Nat) : Int)), [], ((List.length ([] : List (List Int)) : Nat) : Int), false)) (by simp) s' rfl]
     simp only [Option.bind_some]
     rw [eqI_t (by rw [h1, hs]; simp)]
     unfold z8y zbk
     simp only [cond_true, Option.bind_some, List.length_nil]
     rw [eqI_t (by rfl)]
     simp only [cond_true]
     rw [z0n (by simp)]
     simp only [Option.bind_some]
     rw [eqI_t (by rfl)]
   · omega
end Go.Proofs.Ytpfjfldagldgnaa