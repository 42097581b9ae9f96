import Derived.Test.YtfbdjicfkcklfaaSwA
import Derived.Test.YtfbdjicfkcklfaaTm26
set_option maxRecDepth 100000
set_option linter.unusedVariables false
noncomputable section
namespace Go.Proofs.Ytfbdjicfkcklfaa
open Go.Tm Go.Ab
def z1oz : Env := ⟨[(entQ z18i z13j), (entQ zte zr7), (entQ z1dl z19p), (entQ z1eh z19t), (entQ zt9 zr4), (entQ zxl zuw)], [], []⟩
theorem z17q : EnvsOK Try.prog z1oz := ⟨z0o (z0q z1ja) (z0o (z0q zyk) (z0o (z0q z1n4) (z0o (z0q z1o1) (z0o (z0q z10u) (z0o (z0q z18f) (z0x _)))))), z0s _, z0t _⟩
def zjy : Shp := ⟨92, 0, [(2, .pt 0 r15 []), (3, .pt 1 r8 []), (46, .d .bool)], [.var 33 (.d c17), .var 67 (.d c9)]⟩
def zf8 : XS := .one .normal zjy.xe
theorem zug : zf8.OK := XS.one_ok (z0c zjy)
def zb3 : Shp := ⟨92, 0, [], []⟩
def zb4 : Shp := ⟨92, 0, [(4, .d (.int .i64))], []⟩
def z2s : XS := .or (.exit 0) zb3.xe (.one .ret zb4.xe)
theorem zh5 : z2s.OK := XS.or_ok (z0c zb3) (XS.one_ok (z0c zb4))
def z2t : Shp := ⟨92, 0, [(3, .pt 0 r8 []), (5, .pt 1 r13 []), (7, .d (.int .i64))], [.var 67 (.d c9), .var 49 (.d c14)]⟩
abbrev z6i := Int × T1 × T4
abbrev zbh := (Unit) ⊕ (Int)
def z6j (i : Int) (t3 : T1) (o : T4) : Option (z6i ⊕ zbh) :=
 z0u (List.length t3.2.2.2.2.2.2.2.1) (
 bif ltI i (List.length t3.2.2.2.2.2.2.2.1 : Nat) then
 (idxI t3.2.2.2.2.2.2.2.1 i).bind fun x =>
 (zrb o.2.2.2.2.2 x).bind fun r =>
 bif neI r.2 0 then
 some (.inr (.inr 2))
 else
 some (.inl (W64 (i + 1), t3, o))
 else
 some (.inr (.inl ())))
def z1k (s : z6i) : Option (z6i ⊕ zbh) := z6j s.1 s.2.1 s.2.2
theorem zhq : SoundD Try.prog (.loop (subC (bodyC Try.f34) [1, 1, 1, 1, 1, 1, 1, 1, 1, 1, 1, 1, 0, 1, 0, 0])) (loopD z2t.xe z2s (loopC z1k)) :=
 z0w (S := z2t.xe) (X := z2s) z17q (h := .no) (z0p [] (by kernel_rfl) trivial) (z0c z2t) zh5 z1k (fun s => by kernel_rfl)
def z18u : Shp := ⟨1, 0, [(0, .d (.int .i64))], []⟩
def z1dr : XS := .one .ret z18u.xe
theorem z1j9 : z1dr.OK := XS.one_ok (z0c z18u)
def z10o (t0 : T5) (t1 : T1) : Option ((Int)) :=
 (ztf t1).bind fun r =>
 bif !r then
 some 7
 else
 (zl6 t0.1 t1.1).bind fun r2 =>
 bif r2 then
 some 11
 else
 (zzq t1.2.1 t0.1).bind fun r3 =>
 bif !r3 then
 some 10
 else
 bif inI (W64 (t1.1.1 - 1)) 8 then
 (t0.2.2.2.2[(W64 (t1.1.1 - 1)).toNat]?).bind fun x =>
 bif x then
 some 28
 else
 bif eqI t1.2.2.1 8 then
 some 0
 else
 bif eqI t1.2.2.1 9 then
 some 0
 else
 (show Option ((Bool × T5 × T1)) from
 bif eqI t1.2.2.1 1 then
 some (true, t0, t1)
 else
 some (eqI t1.2.2.1 2, t0, t1)).bind fun j =>
 bif j.1 then
 (ztq j.2.1 j.2.2.2.2.2.2.1).bind fun r4 =>
 some r4
 else
 (zl5 j.2.1 j.2.2.2.2.2.1).bind fun r5 =>
 bif !r5.2 then
 some 2
 else
 bif eqI j.2.2.2.2.1 7 then
 (ztq j.2.1 j.2.2.2.2.2.2.1).bind fun r6 =>
 some r6
 else
 bif eqI j.2.2.2.2.1 6 then
 some 0
 else
 bif r5.1.2.1 then
 some 23
 else
 (loopC z1k (0, j.2.2, r5.1)).bind fun o =>
 Sum.elim (fun y =>
 some 0) (fun y2 =>
 some y2) o
 else none
def z1do : Sig := ⟨34, [.d c17, .d c9], [], 0, z1dr⟩
def z1bu (x : T5 × T1) : Option ((Int)) := z10o x.1 x.2
theorem z1o0 : FnOK Try.prog z1do z1bu :=
 fn_ok z17q (h := (.two .no (.two .no (.two .no (.two .no (.two .no (.two .no (.two (.join (fun _ => zf8) .no .no) (.two .no (.two .no (.two .no (.two .no (.two .no (.two (.two .no (.over (loopD z2t.xe z2s (loopC z1k)))) .no)))))))))))))) Try.func34 (z0p [.xs (fun _ => zf8), .den (.loop (subC (bodyC Try.f34) [1, 1, 1, 1, 1, 1, 1, 1, 1, 1, 1, 1, 0, 1, 0, 0])) (loopD z2t.xe z2s (loopC z1k))] (by kernel_rfl) ⟨(z2j zug), zhq, trivial⟩) (by kernel_rfl) z1j9 (fun x => by kernel_rfl)
def z1d9 : Env := ⟨[(entQ zqm zo0), (entQ z8r z7e), (entQ z11r zxq)], [], []⟩
theorem zk9 : EnvsOK Try.prog z1d9 := ⟨z0o (z0q ztd) (z0o (z0q z9c) (z0o (z0q z1a6) (z0x _))), z0s _, z0t _⟩
def zcn : Shp := ⟨101, 1, [(0, .wn 0 c9), (3, .d c5), (4, .d (.int .i64)), (5, .pt 1 r8 [])], [.row 67 c9, .var 67 (.d c9)]⟩
def zcb : Shp := ⟨101, 1, [(0, .wn 0 c9), (3, .d c5), (4, .d (.int .i64)), (23, .pt 1 r8 [.fld 2]), (24, .d (.int .i64)), (25, .d .bool), (28, .pt 1 r8 [.fld 2]), (29, .d (.int .i64)), (30, .d .bool)], [.row 67 c9, .var 67 (.d c9)]⟩
def z8n : XS := .or .normal zcn.xe (.one (.exit 1) zcb.xe)
theorem zjl : z8n.OK := XS.or_ok (z0c zcn) (XS.one_ok (z0c zcb))
def zb9 : Shp := ⟨101, 1, [(0, .wn 0 c9), (3, .d c5), (4, .d (.int .i64)), (6, .pt 1 r7 [])], [.row 67 c9, .var 45 (.d c6)]⟩
def z6w : XS := .one .normal zb9.xe
theorem zhp : z6w.OK := XS.one_ok (z0c zb9)
def z5n : Shp := ⟨101, 1, [(0, .wn 0 c9), (3, .d c5), (4, .d (.int .i64)), (6, .pt 1 r7 []), (7, .d (.int .i64)), (8, .d .bool)], [.row 67 c9, .var 45 (.d c6)]⟩
def z2y : XS := .one .normal z5n.xe
theorem zc5 : z2y.OK := XS.one_ok (z0c z5n)
def z4y : Shp := ⟨101, 1, [(0, .wn 0 c9), (3, .d c5), (4, .d (.int .i64)), (6, .pt 1 r7 []), (7, .d (.int .i64)), (87, .d .bool)], [.row 67 c9, .var 45 (.d c6)]⟩
def z2v : XS := .one .normal z4y.xe
theorem zbi : z2v.OK := XS.one_ok (z0c z4y)
def z7j : Shp := ⟨101, 1, [(0, .wn 0 c9), (3, .d c5), (4, .d (.int .i64)), (6, .pt 1 r7 [])], [.row 67 c9, .var 45 (.d c6)]⟩
def z1w : XS := .one (.exit 2) z7j.xe
theorem zdw : z1w.OK := XS.one_ok (z0c z7j)
def z1v : Shp := ⟨101, 1, [(0, .wn 0 c9), (3, .d c5), (4, .d (.int .i64)), (6, .pt 1 r7 []), (7, .d (.int .i64))], [.row 67 c9, .var 45 (.d c6)]⟩
abbrev z4h := (List T2) × Int × Int × (List T1) × T2
abbrev z8i := ((List T2) × Int × (List T1) × T2)
def z4f (out : List T2) (i : Int) (k : Int) (l : List T1) (x : T2) : Option (z4h ⊕ z8i) :=
 z0u (List.length l) (
 bif ltI k (List.length l : Nat) then
 (show Option (((List T2) × Int × Int × Bool × (List T1) × T2)) from
 bif inI k (List.length l) then
 (l[k.toNat]?).bind fun x2 =>
 bif eqI x2.2.2.1 6 then
 bif Nat.beq (List.length l) (List.length l) then
 some (out, i, k, true, l, x)
 else none
 else
 bif inI k (List.length l) then
 (l[k.toNat]?).bind fun x3 =>
 bif Nat.beq (List.length l) (List.length l) then
 some (out, i, k, eqI x3.2.2.1 7, l, x)
 else none
 else none
 else none).bind fun j =>
 (show Option (((List T2) × Int × Int × Bool × (List T1) × T2)) from
 bif j.2.2.2.1 then
 bif inI j.2.2.1 (List.length j.2.2.2.2.1) then
 (j.2.2.2.2.1[j.2.2.1.toNat]?).bind fun x4 =>
 bif eqU c0 x4.2.2.2.1 j.2.2.2.2.2.2.2.2.1 then
 bif inI j.2.2.1 (List.length j.2.2.2.2.1) then
 (j.2.2.2.2.1[j.2.2.1.toNat]?).bind fun x5 =>
 (zhj x5.2.2.2.2.2.2.1 j.2.2.2.2.2.1).bind fun r =>
 bif Nat.beq (List.length j.2.2.2.2.1) (List.length j.2.2.2.2.1) then
 some (j.1, j.2.1, j.2.2.1, r, j.2.2.2.2.1, j.2.2.2.2.2)
 else none
 else none
 else
 bif Nat.beq (List.length j.2.2.2.2.1) (List.length j.2.2.2.2.1) then
 some (j.1, j.2.1, j.2.2.1, false, j.2.2.2.2.1, j.2.2.2.2.2)
 else none
 else none
 else
 bif Nat.beq (List.length j.2.2.2.2.1) (List.length j.2.2.2.2.1) then
 some (j.1, j.2.1, j.2.2.1, false, j.2.2.2.2.1, j.2.2.2.2.2)
 else none).bind fun j2 =>
 bif j2.2.2.2.1 then
 bif inI j2.2.2.1 (List.length j2.2.2.2.2.1) then
 (j2.2.2.2.2.1[j2.2.2.1.toNat]?).bind fun x6 =>
 (z9j j2.2.2.2.2.2.2.2.2.2 x6.1).bind fun r2 =>
 bif Nat.beq (List.length j2.2.2.2.2.1) (List.length j2.2.2.2.2.1) then
 some (.inl (j2.1, j2.2.1, W64 (j2.2.2.1 + 1), j2.2.2.2.2.1, (j2.2.2.2.2.2.1, j2.2.2.2.2.2.2.1, j2.2.2.2.2.2.2.2.1, j2.2.2.2.2.2.2.2.2.1, r2)))
 else none
 else none
 else
 bif Nat.beq (List.length j2.2.2.2.2.1) (List.length j2.2.2.2.2.1) then
 some (.inl (j2.1, j2.2.1, W64 (j2.2.2.1 + 1), j2.2.2.2.2.1, j2.2.2.2.2.2))
 else none
 else
 bif Nat.beq (List.length l) (List.length l) then
 some (.inr (out, i, l, x))
 else none)
def z1c (s : z4h) : Option (z4h ⊕ z8i) := z4f s.1 s.2.1 s.2.2.1 s.2.2.2.1 s.2.2.2.2
theorem ze7 : SoundD Try.prog (.loop (subC (bodyC Try.f29) [1, 1, 0, 1, 0, 0, 1, 0, 0, 1, 1, 1, 1, 0, 1, 0, 0])) (loopD z1v.xe z1w (loopC z1c)) :=
 z0w (S := z1v.xe) (X := z1w) zk9 (h := (.two .no (.two (.join (fun _ => z2y) .no (.join (fun _ => z2v) .no .no)) .no))) (z0p [.xs (fun _ => z2y), .xs (fun _ => z2v)] (by kernel_rfl) ⟨(z2j zc5), (z2j zbi), trivial⟩) (z0c z1v) zdw z1c (fun s => by kernel_rfl)
def zhl : Shp := ⟨101, 1, [(3, .d c5)], [.row 67 c9]⟩
def z6n : XS := .one (.exit 0) zhl.xe
theorem zr8 : z6n.OK := XS.one_ok (z0c zhl)
def z6r : Shp := ⟨101, 1, [(0, .wn 0 c9), (3, .d c5), (4, .d (.int .i64))], [.row 67 c9]⟩
abbrev zd7 := (List T2) × Int × (List T1)
abbrev zin := ((List T2) × (List T1))
def zdf (out : List T2) (i : Int) (l : List T1) : Option (zd7 ⊕ zin) :=
 z0u (List.length l) (
 bif ltI i (List.length l : Nat) then
 bif inI i (List.length l) then
 (l[i.toNat]?).bind fun x =>
 (show Option (((List T2) × Int × (List T1) × T1) ⊕ ((List T2) × Int × Int × Bool × Int × Bool × (List T1) × T1)) from
 bif neI x.2.2.1 1 then
 bif neI x.2.2.1 2 then
 bif neI x.2.2.1 7 then
 bif Nat.beq (List.length l) (List.length l) then
 some (.inr (out, i, x.2.2.1, neI x.2.2.1 2, x.2.2.1, neI x.2.2.1 7, l, x))
 else none
 else
 bif Nat.beq (List.length l) (List.length l) then
 some (.inl (out, i, l, x))
 else none
 else
 bif Nat.beq (List.length l) (List.length l) then
 some (.inl (out, i, l, x))
 else none
 else
 bif Nat.beq (List.length l) (List.length l) then
 some (.inl (out, i, l, x))
 else none).bind fun j =>
 Sum.elim (fun y =>
 (show Option (((List T2) × Int × (List T1) × T2)) from
 bif eqI y.2.2.2.2.2.1 7 then
 bif Nat.beq (List.length y.2.2.1) (List.length y.2.2.1) then
 some (y.1, y.2.1, y.2.2.1, (y.2.2.2.1, y.2.2.2.2.2.2.2.1, y.2.2.2.2.2.2.2.2.1, y.2.2.2.2.2.2.1, List.replicate 8 (0 : Int)))
 else none
 else
 bif Nat.beq (List.length y.2.2.1) (List.length y.2.2.1) then
 some (y.1, y.2.1, y.2.2.1, (y.2.2.2.1, y.2.2.2.2.2.2.2.1, y.2.2.2.2.2.2.2.2.1, y.2.2.2.1, List.replicate 8 (0 : Int)))
 else none).bind fun j2 =>
 bif Nat.beq (List.length j2.2.2.1) (List.length j2.2.2.1) then
 (loopC z1c (j2.1, j2.2.1, 0, j2.2.2.1, j2.2.2.2)).bind fun o =>
 (zg6 o.1 o.2.2.2).bind fun r =>
 bif Nat.beq (List.length o.2.2.1) (List.length o.2.2.1) then
 some (.inl (r, W64 (o.2.1 + 1), o.2.2.1))
 else none
 else none) (fun y2 =>
 bif Nat.beq (List.length y2.2.2.2.2.2.2.1) (List.length y2.2.2.2.2.2.2.1) then
 some (.inl (y2.1, W64 (y2.2.1 + 1), y2.2.2.2.2.2.2.1))
 else none) j
 else none
 else
 some (.inr (out, l)))
def z3b (s : zd7) : Option (zd7 ⊕ zin) := zdf s.1 s.2.1 s.2.2
theorem zrx : SoundD Try.prog (.loop (subC (bodyC Try.f29) [1, 1, 0, 1, 0, 0])) (loopD z6r.xe z6n (loopC z3b)) :=
 z0w (S := z6r.xe) (X := z6n) zk9 (h := (.two .no (.two (.two .no (.join (fun _ => z8n) .no (.two .no (.join (fun _ => z6w) .no (.two (.two .no (.over (loopD z1v.xe z1w (loopC z1c)))) .no))))) .no))) (z0p [.xs (fun _ => z8n), .xs (fun _ => z6w), .den (.loop (subC (bodyC Try.f29) [1, 1, 0, 1, 0, 0, 1, 0, 0, 1, 1, 1, 1, 0, 1, 0, 0])) (loopD z1v.xe z1w (loopC z1c))] (by kernel_rfl) ⟨(z2j zjl), (z2j zhp), ze7, trivial⟩) (z0c z6r) zr8 z3b (fun s => by kernel_rfl)
def zs5 : Shp := ⟨1, 1, [(0, .d c5)], [.row 67 c9]⟩
def zvt : XS := .one .ret zs5.xe
theorem z15l : zvt.OK := XS.one_ok (z0c zs5)
def zko (l : List T1) : Option (((List T2) × (List T1))) :=
 bif Nat.beq (List.length l) (List.length l) then
 (loopC z3b ([], 0, l)).bind fun o =>
 some (o.1, o.2)
 else none
def zvb : Sig := ⟨29, [.wn 0 c9], [.row 67 c9], 1, zvt⟩
def zu9 (x : (List T1)) : Option (((List T2) × (List T1))) := zko x
theorem z1a9 : FnOK Try.prog zvb zu9 :=
 fn_ok zk9 (h := (.two .no (.two .no (.two (.two .no (.over (loopD z6r.xe z6n (loopC z3b)))) .no)))) Try.func29 (z0p [.den (.loop (subC (bodyC Try.f29) [1, 1, 0, 1, 0, 0])) (loopD z6r.xe z6n (loopC z3b))] (by kernel_rfl) ⟨zrx, trivial⟩) (by kernel_rfl) z15l (fun x => by kernel_rfl)
def z1b5 : Env := ⟨[(entQ zso zqc), (entQ zjv zml), (entQ zqm zo0), (entQ z8r z7e), (entQ z12f zz5)], [], []⟩
theorem zj1 : EnvsOK Try.prog z1b5 := ⟨z0o (z0q zzn) (z0o (z0q z14j) (z0o (z0q ztd) (z0o (z0q z9c) (z0o (z0q z1a0) (z0x _))))), z0s _, z0t _⟩
def z6h : Shp := ⟨89, 1, [(0, .wn 0 c9), (3, .pt 1 r2 []), (5, .d c10), (6, .d (.int .i64)), (7, .pt 2 r12 []), (8, .d (.int .i64)), (22, .wn 0 c9), (23, .d (.int .i64)), (26, .d c0), (27, .d c0), (28, .d .bool), (72, .d .bool)], [.row 67 c9, .var 43 (.d c0), .var 85 (.d c11)]⟩
def z3h : XS := .one .normal z6h.xe
theorem zcx : z3h.OK := XS.one_ok (z0c z6h)
def z8v : Shp := ⟨89, 1, [(0, .wn 0 c9), (3, .pt 1 r2 []), (5, .d c10), (6, .d (.int .i64)), (7, .pt 2 r12 []), (22, .wn 0 c9), (23, .d (.int .i64)), (26, .d c0), (27, .d c0), (28, .d .bool)], [.row 67 c9, .var 43 (.d c0), .var 85 (.d c11)]⟩
def z2c : XS := .one (.exit 2) z8v.xe
theorem zet : z2c.OK := XS.one_ok (z0c z8v)
def z2b : Shp := ⟨89, 1, [(0, .wn 0 c9), (3, .pt 1 r2 []), (5, .d c10), (6, .d (.int .i64)), (7, .pt 2 r12 []), (8, .d (.int .i64)), (22, .wn 0 c9), (23, .d (.int .i64)), (26, .d c0), (27, .d c0), (28, .d .bool)], [.row 67 c9, .var 43 (.d c0), .var 85 (.d c11)]⟩
abbrev z4r := (List T3) × Int × Int × Int × T0 × T0 × Bool × (List T1) × T0 × T3
abbrev z9r := ((List T3) × Int × Int × T0 × T0 × Bool × (List T1) × T0 × T3)
def z4t (out : List T3) (i : Int) (k : Int) (t23 : Int) (t26 : T0) (t27 : T0) (t28 : Bool) (l : List T1) (obj : T0) (v : T3) : Option (z4r ⊕ z9r) :=
 z0u (List.length l) (
 bif ltI k (List.length l : Nat) then
 (show Option (((List T3) × Int × Int × Int × T0 × T0 × Bool × Bool × (List T1) × T0 × T3)) from
 bif inI k (List.length l) then
 (l[k.toNat]?).bind fun x =>
 (zfb x).bind fun r =>
 bif r then
 bif inI k (List.length l) then
 (l[k.toNat]?).bind fun x2 =>
 bif eqU c0 x2.2.2.2.1 obj then
 bif inI k (List.length l) then
 (l[k.toNat]?).bind fun x3 =>
 (zhj x3.2.2.2.2.2.2.2.1 v.1).bind fun r2 =>
 bif Nat.beq (List.length l) (List.length l) then
 bif Nat.beq (List.length l) (List.length l) then
 some (out, i, k, t23, t26, t27, t28, r2, l, obj, v)
 else none
 else none
 else none
 else
 bif Nat.beq (List.length l) (List.length l) then
 bif Nat.beq (List.length l) (List.length l) then
 some (out, i, k, t23, t26, t27, t28, false, l, obj, v)
 else none
 else none
 else none
 else
 bif Nat.beq (List.length l) (List.length l) then
 bif Nat.beq (List.length l) (List.length l) then
 some (out, i, k, t23, t26, t27, t28, false, l, obj, v)
 else none
 else none
 else none).bind fun j =>
 bif j.2.2.2.2.2.2.2.1 then
 bif inI j.2.2.1 (List.length j.2.2.2.2.2.2.2.2.1) then
 (j.2.2.2.2.2.2.2.2.1[j.2.2.1.toNat]?).bind fun x4 =>
 (z9j j.2.2.2.2.2.2.2.2.2.2.2.2 x4.1).bind fun r3 =>
 bif Nat.beq (List.length j.2.2.2.2.2.2.2.2.1) (List.length j.2.2.2.2.2.2.2.2.1) then
 bif Nat.beq (List.length j.2.2.2.2.2.2.2.2.1) (List.length j.2.2.2.2.2.2.2.2.1) then
 some (.inl (j.1, j.2.1, W64 (j.2.2.1 + 1), j.2.2.2.1, j.2.2.2.2.1, j.2.2.2.2.2.1, j.2.2.2.2.2.2.1, j.2.2.2.2.2.2.2.2.1, j.2.2.2.2.2.2.2.2.2.1, (j.2.2.2.2.2.2.2.2.2.2.1, j.2.2.2.2.2.2.2.2.2.2.2.1, r3)))
 else none
 else none
 else none
 else
 bif Nat.beq (List.length j.2.2.2.2.2.2.2.2.1) (List.length j.2.2.2.2.2.2.2.2.1) then
 bif Nat.beq (List.length j.2.2.2.2.2.2.2.2.1) (List.length j.2.2.2.2.2.2.2.2.1) then
 some (.inl (j.1, j.2.1, W64 (j.2.2.1 + 1), j.2.2.2.1, j.2.2.2.2.1, j.2.2.2.2.2.1, j.2.2.2.2.2.2.1, j.2.2.2.2.2.2.2.2.1, j.2.2.2.2.2.2.2.2.2.1, j.2.2.2.2.2.2.2.2.2.2))
 else none
 else none
 else
 bif Nat.beq (List.length l) (List.length l) then
 bif Nat.beq (List.length l) (List.length l) then
 some (.inr (out, i, t23, t26, t27, t28, l, obj, v))
 else none
 else none)
def z1d (s : z4r) : Option (z4r ⊕ z9r) := z4t s.1 s.2.1 s.2.2.1 s.2.2.2.1 s.2.2.2.2.1 s.2.2.2.2.2.1 s.2.2.2.2.2.2.1 s.2.2.2.2.2.2.2.1 s.2.2.2.2.2.2.2.2.1 s.2.2.2.2.2.2.2.2.2
theorem zf4 : SoundD Try.prog (.loop (subC (bodyC Try.f55) [1, 1, 0, 1, 0, 0, 1, 0, 0, 1, 1, 0, 1, 0, 0])) (loopD z2b.xe z2c (loopC z1d)) :=
 z0w (S := z2b.xe) (X := z2c) zj1 (h := (.two .no (.two (.join (fun _ => z3h) .no .no) .no))) (z0p [.xs (fun _ => z3h)] (by kernel_rfl) ⟨(z2j zcx), trivial⟩) (z0c z2b) zet z1d (fun s => by kernel_rfl)
def zg2 : Shp := ⟨89, 1, [(5, .d c10)], [.row 67 c9]⟩
def z6d : XS := .one (.exit 0) zg2.xe
theorem zq1 : z6d.OK := XS.one_ok (z0c zg2)
def z5r : Shp := ⟨89, 1, [(0, .wn 0 c9), (3, .pt 1 r2 []), (5, .d c10), (6, .d (.int .i64))], [.row 67 c9, .var 43 (.d c0)]⟩
abbrev zcp := (List T3) × Int × (List T1) × T0
abbrev zi7 := ((List T3) × (List T1))
def zco (out : List T3) (i : Int) (l : List T1) (obj : T0) : Option (zcp ⊕ zi7) :=
 z0u (List.length l) (
 bif ltI i (List.length l : Nat) then
 bif inI i (List.length l) then
 (l[i.toNat]?).bind fun x =>
 (zfb x).bind fun r =>
 bif !r then
 bif Nat.beq (List.length l) (List.length l) then
 some (.inl (out, W64 (i + 1), l, obj))
 else none
 else
 bif inI i (List.length l) then
 (l[i.toNat]?).bind fun x2 =>
 bif !(eqU c0 x2.2.2.2.1 obj) then
 bif Nat.beq (List.length l) (List.length l) then
 some (.inl (out, W64 (i + 1), l, obj))
 else none
 else
 bif inI i (List.length l) then
 (l[i.toNat]?).bind fun x3 =>
 bif inI i (List.length l) then
 (l[i.toNat]?).bind fun x4 =>
 winK l 0 (List.length l) fun w =>
 (z11k w x4.1).bind fun r2 =>
 bif Nat.beq (List.length l) (List.length l) then
 bif Nat.beq (List.length l) (List.length l) then
 (loopC z1d (out, i, 0, i, x2.2.2.2.1, obj, !(eqU c0 x2.2.2.2.1 obj), l, obj, (x3.1, r2, List.replicate 8 (0 : Int)))).bind fun o =>
 (ztn o.1 [] o.2.2.2.2.2.2.2.2).bind fun r3 =>
 bif Nat.beq (List.length o.2.2.2.2.2.2.1) (List.length o.2.2.2.2.2.2.1) then
 some (.inl (r3.1, W64 (o.2.1 + 1), o.2.2.2.2.2.2.1, o.2.2.2.2.2.2.2.1))
 else none
 else none
 else none
 else none
 else none
 else none
 else none
 else
 some (.inr (out, l)))
def z2x (s : zcp) : Option (zcp ⊕ zi7) := zco s.1 s.2.1 s.2.2.1 s.2.2.2
theorem zqj : SoundD Try.prog (.loop (subC (bodyC Try.f55) [1, 1, 0, 1, 0, 0])) (loopD z5r.xe z6d (loopC z2x)) :=
 z0w (S := z5r.xe) (X := z6d) zj1 (h := (.two .no (.two (.two .no (.two .no (.two (.two .no (.over (loopD z2b.xe z2c (loopC z1d)))) .no))) .no))) (z0p [.den (.loop (subC (bodyC Try.f55) [1, 1, 0, 1, 0, 0, 1, 0, 0, 1, 1, 0, 1, 0, 0])) (loopD z2b.xe z2c (loopC z1d))] (by kernel_rfl) ⟨zf4, trivial⟩) (z0c z5r) zq1 z2x (fun s => by kernel_rfl)
def zrd : Shp := ⟨1, 1, [(0, .d c10)], [.row 67 c9]⟩
def zu6 : XS := .one .ret zrd.xe
theorem z14d : zu6.OK := XS.one_ok (z0c zrd)
def zj3 (obj : T0) (l : List T1) : Option (((List T3) × (List T1))) :=
 bif Nat.beq (List.length l) (List.length l) then
 (loopC z2x ([], 0, l, obj)).bind fun o =>
 some (o.1, o.2)
 else none
def ztt : Sig := ⟨55, [.wn 0 c9, .d c0], [.row 67 c9], 1, zu6⟩
def zs2 (x : T0 × (List T1)) : Option (((List T3) × (List T1))) := zj3 x.1 x.2
theorem z19i : FnOK Try.prog ztt zs2 :=
 fn_ok zj1 (h := (.two .no (.two .no (.two (.two .no (.over (loopD z5r.xe z6d (loopC z2x)))) .no)))) Try.func55 (z0p [.den (.loop (subC (bodyC Try.f55) [1, 1, 0, 1, 0, 0])) (loopD z5r.xe z6d (loopC z2x))] (by kernel_rfl) ⟨zqj, trivial⟩) (by kernel_rfl) z14d (fun x => by kernel_rfl)
def z1fx : Env := ⟨[(entQ zba za5), (entQ z8r z7e), (entQ zi2 zfv)], [], [(entD ztt zs2)]⟩
theorem zto : EnvsOK Try.prog z1fx := ⟨z0o (z0q zbx) (z0o (z0q z9c) (z0o (z0q zjk) (z0x _))), z0s _, z1kn (z1pv z19i) (z0t _)⟩
def zd1 : Shp := ⟨85, 1, [(0, .wn 0 c9), (3, .pt 1 r8 []), (4, .pt 2 r13 []), (5, .pt 3 r13 []), (6, .d (.int .i64))], [.row 67 c9, .var 67 (.d c9), .var 49 (.d c14), .var 49 (.d c14)]⟩
def z9i : XS := .one .normal zd1.xe
theorem zkc : z9i.OK := XS.one_ok (z0c zd1)
def zc6 : Shp := ⟨85, 1, [(0, .wn 0 c9), (3, .pt 1 r8 []), (4, .pt 2 r13 []), (5, .pt 3 r13 []), (6, .d (.int .i64)), (50, .d .bool)], [.row 67 c9, .var 67 (.d c9), .var 49 (.d c14), .var 49 (.d c14)]⟩
def z8h : XS := .one .normal zc6.xe
theorem zj0 : z8h.OK := XS.one_ok (z0c zc6)
def zi9 : Shp := ⟨85, 1, [(4, .pt 1 r13 []), (5, .pt 2 r13 [])], [.row 67 c9, .var 49 (.d c14), .var 49 (.d c14)]⟩
def z7b : XS := .one (.exit 0) zi9.xe
theorem zs0 : z7b.OK := XS.one_ok (z0c zi9)
def z6z : Shp := ⟨85, 1, [(0, .wn 0 c9), (3, .pt 1 r8 []), (4, .pt 2 r13 []), (5, .pt 3 r13 []), (6, .d (.int .i64))], [.row 67 c9, .var 67 (.d c9), .var 49 (.d c14), .var 49 (.d c14)]⟩
abbrev ze2 := Int × (List T1) × T1 × T4 × T4
abbrev zk0 := ((List T1) × T4 × T4)
def ze5 (i : Int) (l : List T1) (t3 : T1) (t4 : T4) (o : T4) : Option (ze2 ⊕ zk0) :=
 z0u (List.length l) (
 bif ltI i (List.length l : Nat) then
 bif inI i (List.length l) then
 (l[i.toNat]?).bind fun x =>
 bif !(eqU c0 x.2.2.2.1 t3.1) then
 bif Nat.beq (List.length l) (List.length l) then
 some (.inl (W64 (i + 1), l, t3, t4, o))
 else none
 else
 (show Option ((Int × (List T1) × T1 × T4 × T4)) from
 (show Option ((Int × Bool × (List T1) × T1 × T4 × T4)) from
 bif inI i (List.length l) then
 (l[i.toNat]?).bind fun x2 =>
 bif eqI x2.2.2.1 7 then
 bif inI i (List.length l) then
 (l[i.toNat]?).bind fun x3 =>
 (zas o.2.2.1 x3.1).bind fun r =>
 bif Nat.beq (List.length l) (List.length l) then
 some (i, r, l, t3, t4, o)
 else none
 else none
 else
 bif Nat.beq (List.length l) (List.length l) then
 some (i, false, l, t3, t4, o)
 else none
 else none).bind fun j =>
 bif j.2.1 then
 bif inI j.1 (List.length j.2.2.1) then
 (j.2.2.1[j.1.toNat]?).bind fun x4 =>
 bif inI j.1 (List.length j.2.2.1) then
 (j.2.2.1[j.1.toNat]?).bind fun x5 =>
 bif Nat.beq (List.length j.2.2.1) (List.length j.2.2.1) then
 some (j.1, j.2.2.1, j.2.2.2.1, j.2.2.2.2.1, ((j.2.2.2.2.2.1, j.2.2.2.2.2.2.1, x4.1, j.2.2.2.2.2.2.2.2).1, (j.2.2.2.2.2.1, j.2.2.2.2.2.2.1, x4.1, j.2.2.2.2.2.2.2.2).2.1, (j.2.2.2.2.2.1, j.2.2.2.2.2.2.1, x4.1, j.2.2.2.2.2.2.2.2).2.2.1, x5.2.2.2.2.2.1, (j.2.2.2.2.2.1, j.2.2.2.2.2.2.1, x4.1, j.2.2.2.2.2.2.2.2).2.2.2.2))
 else none
 else none
 else none
 else
 bif Nat.beq (List.length j.2.2.1) (List.length j.2.2.1) then
 some (j.1, j.2.2.1, j.2.2.2.1, j.2.2.2.2.1, j.2.2.2.2.2)
 else none).bind fun j2 =>
 bif inI j2.1 (List.length j2.2.1) then
 (j2.2.1[j2.1.toNat]?).bind fun x6 =>
 bif eqI x6.2.2.1 6 then
 bif inI j2.1 (List.length j2.2.1) then
 (j2.2.1[j2.1.toNat]?).bind fun x7 =>
 bif inI j2.1 (List.length j2.2.1) then
 (j2.2.1[j2.1.toNat]?).bind fun x8 =>
 (z9j x7.2.1 x8.1).bind fun r2 =>
 (zgd j2.2.2.2.2.2.2.2.2.1 r2).bind fun r3 =>
 bif Nat.beq (List.length j2.2.1) (List.length j2.2.1) then
 some (.inl (W64 (j2.1 + 1), j2.2.1, j2.2.2.1, j2.2.2.2.1, (j2.2.2.2.2.1, j2.2.2.2.2.2.1, j2.2.2.2.2.2.2.1, j2.2.2.2.2.2.2.2.1, r3, j2.2.2.2.2.2.2.2.2.2)))
 else none
 else none
 else none
 else
 bif Nat.beq (List.length j2.2.1) (List.length j2.2.1) then
 some (.inl (W64 (j2.1 + 1), j2.2.1, j2.2.2.1, j2.2.2.2.1, j2.2.2.2.2))
 else none
 else none
 else none
 else
 some (.inr (l, t4, o)))
def z3j (s : ze2) : Option (ze2 ⊕ zk0) := ze5 s.1 s.2.1 s.2.2.1 s.2.2.2.1 s.2.2.2.2
theorem zsm : SoundD Try.prog (.loop (subC (bodyC Try.f30) [1, 1, 0, 1, 0, 0])) (loopD z6z.xe z7b (loopC z3j)) :=
 z0w (S := z6z.xe) (X := z7b) zto (h := (.two .no (.two (.two .no (.join (fun _ => z9i) (.join (fun _ => z8h) .no .no) .no)) .no))) (z0p [.xs (fun _ => z9i), .xs (fun _ => z8h)] (by kernel_rfl) ⟨(z2j zkc), (z2j zj0), trivial⟩) (z0c z6z) zs0 z3j (fun s => by kernel_rfl)
def zul : Shp := ⟨1, 1, [(0, .d c14)], [.row 67 c9]⟩
def zyz : XS := .one .ret zul.xe
theorem z19k : zyz.OK := XS.one_ok (z0c zul)
def zmo (t1 : T1) (l : List T1) : Option ((T4 × (List T1))) :=
 bif Nat.beq (List.length l) (List.length l) then
 (zj3 t1.1 l).bind fun r =>
 bif Nat.beq (List.length l) (List.length r.2) then
 (loopC z3j (0, r.2, t1, ((0, 0), false, (0, 0), [], List.replicate 8 (0 : Int), []), (t1.1, eqI t1.2.2.1 2, t1.1, t1.2.2.2.2.2.1, List.replicate 8 (0 : Int), r.1))).bind fun o =>
 some (o.2.2, o.1)
 else none
 else none
def zy3 : Sig := ⟨30, [.wn 0 c9, .d c9], [.row 67 c9], 1, zyz⟩
def zvm (x : T1 × (List T1)) : Option ((T4 × (List T1))) := zmo x.1 x.2
theorem z1cx : FnOK Try.prog zy3 zvm :=
 fn_ok zto (h := (.two .no (.two .no (.two (.two .no (.over (loopD z6z.xe z7b (loopC z3j)))) .no)))) Try.func30 (z0p [.den (.loop (subC (bodyC Try.f30) [1, 1, 0, 1, 0, 0])) (loopD z6z.xe z7b (loopC z3j))] (by kernel_rfl) ⟨zsm, trivial⟩) (by kernel_rfl) z19k (fun x => by kernel_rfl)
def z1ga : Env := ⟨[(entQ zup zsq), (entQ zba za5), (entQ zoi zkw), (entQ z8r z7e)], [(entP zvb zu9), (entP zy3 zvm)], []⟩
theorem znd : EnvsOK Try.prog z1ga := ⟨z0o (z0q z14m) (z0o (z0q zbx) (z0o (z0q zr9) (z0o (z0q z9c) (z0x _)))), zdk (zie z1a9) (zdk (zie z1cx) (z0s _)), z0t _⟩
def zck : Shp := ⟨108, 1, [(0, .wn 0 c9), (2, .pt 1 r15 []), (3, .pt 2 r15 []), (4, .pt 3 (.one (.arr 8 .leaf)) []), (5, .d (.int .i64)), (6, .pt 4 r8 [])], [.row 67 c9, .var 33 (.ag [.d c1, .wn 5 c14, .wn 6 c6, .d c16, .d (.arr 8 .bool)]), .var 33 (.ag [.d c1, .wn 7 c14, .d c5, .d c16, .d (.arr 8 .bool)]), .var 25 (.d c1), .var 67 (.d c9), .row 49 c14, .row 45 c6, .row 49 c14]⟩
def z9b : XS := .one .normal zck.xe
theorem zjr : z9b.OK := XS.one_ok (z0c zck)
def zbr : Shp := ⟨108, 1, [(0, .wn 0 c9), (2, .pt 1 r15 []), (3, .pt 2 r15 []), (4, .pt 3 (.one (.arr 8 .leaf)) []), (5, .d (.int .i64)), (6, .pt 4 r8 []), (33, .d .bool)], [.row 67 c9, .var 33 (.ag [.d c1, .wn 5 c14, .wn 6 c6, .d c16, .d (.arr 8 .bool)]), .var 33 (.ag [.d c1, .wn 7 c14, .d c5, .d c16, .d (.arr 8 .bool)]), .var 25 (.d c1), .var 67 (.d c9), .row 49 c14, .row 45 c6, .row 49 c14]⟩
def z7p : XS := .one .normal zbr.xe
theorem zig : z7p.OK := XS.one_ok (z0c zbr)
def z6y : Shp := ⟨108, 1, [(0, .wn 0 c9), (2, .pt 1 r15 []), (3, .pt 2 r15 []), (4, .pt 3 (.one (.arr 8 .leaf)) []), (5, .d (.int .i64)), (6, .pt 4 r8 []), (7, .pt 5 r13 []), (8, .d (.int .i64))], [.row 67 c9, .var 33 (.ag [.d c1, .wn 6 c14, .wn 7 c6, .d c16, .d (.arr 8 .bool)]), .var 33 (.ag [.d c1, .wn 8 c14, .d c5, .d c16, .d (.arr 8 .bool)]), .var 25 (.d c1), .var 67 (.d c9), .var 49 (.d c14), .row 49 c14, .row 45 c6, .row 49 c14]⟩
def z1o : XS := .one (.exit 2) z6y.xe
theorem zd3 : z1o.OK := XS.one_ok (z0c z6y)
def z1p : Shp := ⟨108, 1, [(0, .wn 0 c9), (2, .pt 1 r15 []), (3, .pt 2 r15 []), (4, .pt 3 (.one (.arr 8 .leaf)) []), (5, .d (.int .i64)), (6, .pt 4 r8 []), (7, .pt 5 r13 []), (8, .d (.int .i64))], [.row 67 c9, .var 33 (.ag [.d c1, .wn 6 c14, .wn 7 c6, .d c16, .d (.arr 8 .bool)]), .var 33 (.ag [.d c1, .wn 8 c14, .d c5, .d c16, .d (.arr 8 .bool)]), .var 25 (.d c1), .var 67 (.d c9), .var 49 (.d c14), .row 49 c14, .row 45 c6, .row 49 c14]⟩
abbrev z3n := Int × Int × (List T1) × (List Int) × (List Int) × (List Bool) × (List Int) × (List T2) × (List Int) × (List Bool) × (List Int) × T1 × T4 × (List T4) × (List T2) × (List T4)
abbrev z7m := (Int × Int × (List T1) × (List Int) × (List Int) × (List Bool) × (List Int) × (List T2) × (List Int) × (List Bool) × (List Int) × T1 × T4 × (List T4) × (List T2) × (List T4))
def z3r (i : Int) (k : Int) (l : List T1) (t2 : List Int) (t22 : List Int) (t23 : List Bool) (t3 : List Int) (t32 : List T2) (t33 : List Int) (t34 : List Bool) (latest : List Int) (t6 : T1) (o : T4) (t24 : List T4) (t25 : List T2) (t35 : List T4) : Option (z3n ⊕ z7m) :=
 bif ltI 0 k then
 bif inI (W64 (k - 1)) (List.length t35) then
 (t35[(W64 (k - 1)).toNat]?).bind fun x =>
 (zas o.1 x.1).bind fun r =>
 bif r then
 bif Nat.beq (List.length l) (List.length l) then
 bif Nat.beq (List.length t24) (List.length t24) then
 bif Nat.beq (List.length t25) (List.length t25) then
 bif Nat.beq (List.length t35) (List.length t35) then
 some (.inl (i, W64 (k - 1), l, t2, t22, t23, t3, t32, t33, t34, latest, t6, o, t24, t25, t35))
 else none
 else none
 else none
 else none
 else
 bif Nat.beq (List.length l) (List.length l) then
 bif Nat.beq (List.length t24) (List.length t24) then
 bif Nat.beq (List.length t25) (List.length t25) then
 bif Nat.beq (List.length t35) (List.length t35) then
 some (.inr (i, k, l, t2, t22, t23, t3, t32, t33, t34, latest, t6, o, t24, t25, t35))
 else none
 else none
 else none
 else none
 else none
 else
 bif Nat.beq (List.length l) (List.length l) then
 bif Nat.beq (List.length t24) (List.length t24) then
 bif Nat.beq (List.length t25) (List.length t25) then
 bif Nat.beq (List.length t35) (List.length t35) then
 some (.inr (i, k, l, t2, t22, t23, t3, t32, t33, t34, latest, t6, o, t24, t25, t35))
 else none
 else none
 else none
 else none
def z1a (s : z3n) : Option (z3n ⊕ z7m) := z3r s.1 s.2.1 s.2.2.1 s.2.2.2.1 s.2.2.2.2.1 s.2.2.2.2.2.1 s.2.2.2.2.2.2.1 s.2.2.2.2.2.2.2.1 s.2.2.2.2.2.2.2.2.1 s.2.2.2.2.2.2.2.2.2.1 s.2.2.2.2.2.2.2.2.2.2.1 s.2.2.2.2.2.2.2.2.2.2.2.1 s.2.2.2.2.2.2.2.2.2.2.2.2.1 s.2.2.2.2.2.2.2.2.2.2.2.2.2.1 s.2.2.2.2.2.2.2.2.2.2.2.2.2.2.1 s.2.2.2.2.2.2.2.2.2.2.2.2.2.2.2
theorem zdp : SoundD Try.prog (.loop (subC (bodyC Try.f10) [1, 1, 1, 0, 1, 0, 0, 1, 0, 0, 1, 0, 1, 0, 1, 1, 0, 0, 0])) (loopD z1p.xe z1o (loopC z1a)) :=
 z0w (S := z1p.xe) (X := z1o) znd (h := .no) (z0p [] (by kernel_rfl) trivial) (z0c z1p) zd3 z1a (fun s => by kernel_rfl)
def zbm : Shp := ⟨108, 1, [(0, .wn 0 c9), (2, .pt 1 r15 []), (3, .pt 2 r15 []), (4, .pt 3 (.one (.arr 8 .leaf)) []), (5, .d (.int .i64)), (6, .pt 4 r8 [])], [.row 67 c9, .var 33 (.ag [.d c1, .wn 5 c14, .wn 6 c6, .d c16, .d (.arr 8 .bool)]), .var 33 (.ag [.d c1, .wn 7 c14, .d c5, .d c16, .d (.arr 8 .bool)]), .var 25 (.d c1), .var 67 (.d c9), .row 49 c14, .row 45 c6, .row 49 c14]⟩
def z7s : XS := .one .normal zbm.xe
theorem zii : z7s.OK := XS.one_ok (z0c zbm)
def zbf : Shp := ⟨108, 1, [(0, .wn 0 c9), (2, .pt 1 r15 []), (3, .pt 2 r15 []), (4, .pt 3 (.one (.arr 8 .leaf)) []), (5, .d (.int .i64)), (6, .pt 4 r8 []), (85, .d .bool)], [.row 67 c9, .var 33 (.ag [.d c1, .wn 5 c14, .wn 6 c6, .d c16, .d (.arr 8 .bool)]), .var 33 (.ag [.d c1, .wn 7 c14, .d c5, .d c16, .d (.arr 8 .bool)]), .var 25 (.d c1), .var 67 (.d c9), .row 49 c14, .row 45 c6, .row 49 c14]⟩
def z6u : XS := .one .normal zbf.xe
theorem zhr : z6u.OK := XS.one_ok (z0c zbf)
def zhm : Shp := ⟨108, 1, [(2, .pt 1 r15 []), (3, .pt 2 r15 [])], [.row 67 c9, .var 33 (.ag [.d c1, .wn 3 c14, .wn 4 c6, .d c16, .d (.arr 8 .bool)]), .var 33 (.ag [.d c1, .wn 5 c14, .d c5, .d c16, .d (.arr 8 .bool)]), .row 49 c14, .row 45 c6, .row 49 c14]⟩
def z6k : XS := .one (.exit 0) zhm.xe
theorem zqy : z6k.OK := XS.one_ok (z0c zhm)
def z6p : Shp := ⟨108, 1, [(0, .wn 0 c9), (2, .pt 1 r15 []), (3, .pt 2 r15 []), (4, .pt 3 (.one (.arr 8 .leaf)) []), (5, .d (.int .i64))], [.row 67 c9, .var 33 (.ag [.d c1, .wn 4 c14, .wn 5 c6, .d c16, .d (.arr 8 .bool)]), .var 33 (.ag [.d c1, .wn 6 c14, .d c5, .d c16, .d (.arr 8 .bool)]), .var 25 (.d c1), .row 49 c14, .row 45 c6, .row 49 c14]⟩
abbrev zdb := Int × (List T1) × (List Int) × (List Int) × (List Bool) × (List Int) × (List T2) × (List Int) × (List Bool) × (List Int) × (List T4) × (List T2) × (List T4)
abbrev ziu := ((List T1) × (List Int) × (List Int) × (List Bool) × (List Int) × (List T2) × (List Int) × (List Bool) × (List T4) × (List T2) × (List T4))
def zd5 (i : Int) (l : List T1) (t2 : List Int) (t22 : List Int) (t23 : List Bool) (t3 : List Int) (t32 : List T2) (t33 : List Int) (t34 : List Bool) (latest : List Int) (t24 : List T4) (t25 : List T2) (t35 : List T4) : Option (zdb ⊕ ziu) :=
 z0u (List.length l) (
 bif ltI i (List.length l : Nat) then
 bif inI i (List.length l) then
 (l[i.toNat]?).bind fun x =>
 (show Option ((Int × (List T1) × (List Int) × (List Int) × (List Bool) × (List Int) × (List T2) × (List Int) × (List Bool) × (List Int) × T1 × (List T4) × (List T2) × (List T4))) from
 (show Option ((Int × Bool × (List T1) × (List Int) × (List Int) × (List Bool) × (List Int) × (List T2) × (List Int) × (List Bool) × (List Int) × T1 × (List T4) × (List T2) × (List T4))) from
 bif eqI x.2.2.1 1 then
 bif Nat.beq (List.length l) (List.length l) then
 bif Nat.beq (List.length t24) (List.length t24) then
 bif Nat.beq (List.length t25) (List.length t25) then
 bif Nat.beq (List.length t35) (List.length t35) then
 some (i, true, l, t2, t22, t23, t3, t32, t33, t34, latest, x, t24, t25, t35)
 else none
 else none
 else none
 else none
 else
 bif Nat.beq (List.length l) (List.length l) then
 bif Nat.beq (List.length t24) (List.length t24) then
 bif Nat.beq (List.length t25) (List.length t25) then
 bif Nat.beq (List.length t35) (List.length t35) then
 some (i, eqI x.2.2.1 2, l, t2, t22, t23, t3, t32, t33, t34, latest, x, t24, t25, t35)
 else none
 else none
 else none
 else none).bind fun j =>
 bif j.2.1 then
 bif Nat.beq (List.length j.2.2.1) (List.length j.2.2.1) then
 (zmo j.2.2.2.2.2.2.2.2.2.2.2.1 j.2.2.1).bind fun r =>
 z0u (List.length j.2.2.2.2.2.2.2.2.2.2.2.2.2.2) (
 bif Nat.beq (List.length j.2.2.1) (List.length r.2) then
 bif Nat.beq (List.length j.2.2.2.2.2.2.2.2.2.2.2.2.1) (List.length j.2.2.2.2.2.2.2.2.2.2.2.2.1) then
 bif Nat.beq (List.length j.2.2.2.2.2.2.2.2.2.2.2.2.2.1) (List.length j.2.2.2.2.2.2.2.2.2.2.2.2.2.1) then
 bif Nat.beq (List.length j.2.2.2.2.2.2.2.2.2.2.2.2.2.2) (List.length j.2.2.2.2.2.2.2.2.2.2.2.2.2.2) then
 (loopC z1a (j.1, (List.length j.2.2.2.2.2.2.2.2.2.2.2.2.2.2 : Nat), r.2, j.2.2.2.1, j.2.2.2.2.1, j.2.2.2.2.2.1, j.2.2.2.2.2.2.1, j.2.2.2.2.2.2.2.1, j.2.2.2.2.2.2.2.2.1, j.2.2.2.2.2.2.2.2.2.1, j.2.2.2.2.2.2.2.2.2.2.1, j.2.2.2.2.2.2.2.2.2.2.2.1, r.1, j.2.2.2.2.2.2.2.2.2.2.2.2.1, j.2.2.2.2.2.2.2.2.2.2.2.2.2.1, j.2.2.2.2.2.2.2.2.2.2.2.2.2.2)).bind fun o =>
 bif subOk o.2.1 (List.length o.2.2.2.2.2.2.2.2.2.2.2.2.2.2.2 : Nat) (List.length o.2.2.2.2.2.2.2.2.2.2.2.2.2.2.2) then
 winK o.2.2.2.2.2.2.2.2.2.2.2.2.2.2.2 o.2.1.toNat ((List.length o.2.2.2.2.2.2.2.2.2.2.2.2.2.2.2) - o.2.1.toNat) fun w =>
 appG (List.length ([o.2.2.2.2.2.2.2.2.2.2.2.2.1] : List T4)) (List.length w) 112 fun _ =>
 bif subOk 0 o.2.1 (List.length o.2.2.2.2.2.2.2.2.2.2.2.2.2.2.2) then
 winK o.2.2.2.2.2.2.2.2.2.2.2.2.2.2.2 0 o.2.1.toNat fun w2 =>
 appG (List.length ([] : List T4)) (List.length w2) 112 fun _ =>
 bif Nat.beq (List.length w2) (List.length w2) then
 appG (List.length w2) (List.length (([o.2.2.2.2.2.2.2.2.2.2.2.2.1] : List T4) ++ w)) 112 fun _ =>
 bif Nat.beq (List.length o.2.2.1) (List.length o.2.2.1) then
 bif Nat.beq (List.length o.2.2.2.2.2.2.2.2.2.2.2.2.2.1) (List.length o.2.2.2.2.2.2.2.2.2.2.2.2.2.1) then
 bif Nat.beq (List.length o.2.2.2.2.2.2.2.2.2.2.2.2.2.2.1) (List.length o.2.2.2.2.2.2.2.2.2.2.2.2.2.2.1) then
 bif Nat.beq (List.length (w2 ++ (([o.2.2.2.2.2.2.2.2.2.2.2.2.1] : List T4) ++ w))) (List.length (w2 ++ (([o.2.2.2.2.2.2.2.2.2.2.2.2.1] : List T4) ++ w))) then
 some (o.1, o.2.2.1, o.2.2.2.1, o.2.2.2.2.1, o.2.2.2.2.2.1, o.2.2.2.2.2.2.1, o.2.2.2.2.2.2.2.1, o.2.2.2.2.2.2.2.2.1, o.2.2.2.2.2.2.2.2.2.1, o.2.2.2.2.2.2.2.2.2.2.1, o.2.2.2.2.2.2.2.2.2.2.2.1, o.2.2.2.2.2.2.2.2.2.2.2.2.2.1, o.2.2.2.2.2.2.2.2.2.2.2.2.2.2.1, w2 ++ (([o.2.2.2.2.2.2.2.2.2.2.2.2.1] : List T4) ++ w))
 else none
 else none
 else none
 else none
 else none
 else none
 else none
 else none
 else none
 else none
 else none)
 else none
 else
 bif Nat.beq (List.length j.2.2.1) (List.length j.2.2.1) then
 bif Nat.beq (List.length j.2.2.2.2.2.2.2.2.2.2.2.2.1) (List.length j.2.2.2.2.2.2.2.2.2.2.2.2.1) then
 bif Nat.beq (List.length j.2.2.2.2.2.2.2.2.2.2.2.2.2.1) (List.length j.2.2.2.2.2.2.2.2.2.2.2.2.2.1) then
 bif Nat.beq (List.length j.2.2.2.2.2.2.2.2.2.2.2.2.2.2) (List.length j.2.2.2.2.2.2.2.2.2.2.2.2.2.2) then
 some (j.1, j.2.2.1, j.2.2.2.1, j.2.2.2.2.1, j.2.2.2.2.2.1, j.2.2.2.2.2.2.1, j.2.2.2.2.2.2.2.1, j.2.2.2.2.2.2.2.2.1, j.2.2.2.2.2.2.2.2.2.1, j.2.2.2.2.2.2.2.2.2.2.1, j.2.2.2.2.2.2.2.2.2.2.2.1, j.2.2.2.2.2.2.2.2.2.2.2.2.1, j.2.2.2.2.2.2.2.2.2.2.2.2.2.1, j.2.2.2.2.2.2.2.2.2.2.2.2.2.2)
 else none
 else none
 else none
 else none).bind fun j2 =>
 (show Option ((Int × (List T1) × (List Int) × (List Int) × (List Bool) × (List Int) × (List T2) × (List Int) × (List Bool) × (List Int) × T1 × (List T4) × (List T2) × (List T4))) from
 (show Option ((Int × Bool × (List T1) × (List Int) × (List Int) × (List Bool) × (List Int) × (List T2) × (List Int) × (List Bool) × (List Int) × T1 × (List T4) × (List T2) × (List T4))) from
 bif eqI j2.2.2.2.2.2.2.2.2.2.2.1.2.2.1 8 then
 (zll j2.2.2.2.2.2.2.2.2.2.1 j2.2.2.2.2.2.2.2.2.2.2.1.1.1).bind fun r2 =>
 bif Nat.beq (List.length j2.2.1) (List.length j2.2.1) then
 bif Nat.beq (List.length j2.2.2.2.2.2.2.2.2.2.2.2.1) (List.length j2.2.2.2.2.2.2.2.2.2.2.2.1) then
 bif Nat.beq (List.length j2.2.2.2.2.2.2.2.2.2.2.2.2.1) (List.length j2.2.2.2.2.2.2.2.2.2.2.2.2.1) then
 bif Nat.beq (List.length j2.2.2.2.2.2.2.2.2.2.2.2.2.2) (List.length j2.2.2.2.2.2.2.2.2.2.2.2.2.2) then
 some (j2.1, ltI r2 j2.2.2.2.2.2.2.2.2.2.2.1.1.2, j2.2.1, j2.2.2.1, j2.2.2.2.1, j2.2.2.2.2.1, j2.2.2.2.2.2.1, j2.2.2.2.2.2.2.1, j2.2.2.2.2.2.2.2.1, j2.2.2.2.2.2.2.2.2.1, j2.2.2.2.2.2.2.2.2.2.1, j2.2.2.2.2.2.2.2.2.2.2.1, j2.2.2.2.2.2.2.2.2.2.2.2.1, j2.2.2.2.2.2.2.2.2.2.2.2.2.1, j2.2.2.2.2.2.2.2.2.2.2.2.2.2)
 else none
 else none
 else none
 else none
 else
 bif Nat.beq (List.length j2.2.1) (List.length j2.2.1) then
 bif Nat.beq (List.length j2.2.2.2.2.2.2.2.2.2.2.2.1) (List.length j2.2.2.2.2.2.2.2.2.2.2.2.1) then
 bif Nat.beq (List.length j2.2.2.2.2.2.2.2.2.2.2.2.2.1) (List.length j2.2.2.2.2.2.2.2.2.2.2.2.2.1) then
 bif Nat.beq (List.length j2.2.2.2.2.2.2.2.2.2.2.2.2.2) (List.length j2.2.2.2.2.2.2.2.2.2.2.2.2.2) then
 some (j2.1, false, j2.2.1, j2.2.2.1, j2.2.2.2.1, j2.2.2.2.2.1, j2.2.2.2.2.2.1, j2.2.2.2.2.2.2.1, j2.2.2.2.2.2.2.2.1, j2.2.2.2.2.2.2.2.2.1, j2.2.2.2.2.2.2.2.2.2.1, j2.2.2.2.2.2.2.2.2.2.2.1, j2.2.2.2.2.2.2.2.2.2.2.2.1, j2.2.2.2.2.2.2.2.2.2.2.2.2.1, j2.2.2.2.2.2.2.2.2.2.2.2.2.2)
 else none
 else none
 else none
 else none).bind fun j3 =>
 bif j3.2.1 then
 (z9j j3.2.2.2.2.2.2.2.2.2.2.1 j3.2.2.2.2.2.2.2.2.2.2.2.1.1).bind fun r3 =>
 bif inI (W64 (j3.2.2.2.2.2.2.2.2.2.2.2.1.1.1 - 1)) 8 then
 (j3.2.2.2.2.2.2.2.2.1[(W64 (j3.2.2.2.2.2.2.2.2.2.2.2.1.1.1 - 1)).toNat]?).bind fun _x =>
 bif Nat.beq (List.length j3.2.2.1) (List.length j3.2.2.1) then
 bif Nat.beq (List.length j3.2.2.2.2.2.2.2.2.2.2.2.2.1) (List.length j3.2.2.2.2.2.2.2.2.2.2.2.2.1) then
 bif Nat.beq (List.length j3.2.2.2.2.2.2.2.2.2.2.2.2.2.1) (List.length j3.2.2.2.2.2.2.2.2.2.2.2.2.2.1) then
 bif Nat.beq (List.length j3.2.2.2.2.2.2.2.2.2.2.2.2.2.2) (List.length j3.2.2.2.2.2.2.2.2.2.2.2.2.2.2) then
 some ((j3.1, j3.2.2.1, j3.2.2.2.1, j3.2.2.2.2.1, j3.2.2.2.2.2.1, j3.2.2.2.2.2.2.1, j3.2.2.2.2.2.2.2.1, j3.2.2.2.2.2.2.2.2.1.set ((W64 (j3.2.2.2.2.2.2.2.2.2.2.2.1.1.1 - 1)).toNat) j3.2.2.2.2.2.2.2.2.2.2.2.1.2.2.2.2.2.2.2.2.2.2, j3.2.2.2.2.2.2.2.2.2.1, r3, j3.2.2.2.2.2.2.2.2.2.2.2.1, j3.2.2.2.2.2.2.2.2.2.2.2.2.1, j3.2.2.2.2.2.2.2.2.2.2.2.2.2.1, j3.2.2.2.2.2.2.2.2.2.2.2.2.2.2))
 else none
 else none
 else none
 else none
 else none
 else
 bif Nat.beq (List.length j3.2.2.1) (List.length j3.2.2.1) then
 bif Nat.beq (List.length j3.2.2.2.2.2.2.2.2.2.2.2.2.1) (List.length j3.2.2.2.2.2.2.2.2.2.2.2.2.1) then
 bif Nat.beq (List.length j3.2.2.2.2.2.2.2.2.2.2.2.2.2.1) (List.length j3.2.2.2.2.2.2.2.2.2.2.2.2.2.1) then
 bif Nat.beq (List.length j3.2.2.2.2.2.2.2.2.2.2.2.2.2.2) (List.length j3.2.2.2.2.2.2.2.2.2.2.2.2.2.2) then
 some (j3.1, j3.2.2.1, j3.2.2.2.1, j3.2.2.2.2.1, j3.2.2.2.2.2.1, j3.2.2.2.2.2.2.1, j3.2.2.2.2.2.2.2.1, j3.2.2.2.2.2.2.2.2.1, j3.2.2.2.2.2.2.2.2.2.1, j3.2.2.2.2.2.2.2.2.2.2.1, j3.2.2.2.2.2.2.2.2.2.2.2.1, j3.2.2.2.2.2.2.2.2.2.2.2.2.1, j3.2.2.2.2.2.2.2.2.2.2.2.2.2.1, j3.2.2.2.2.2.2.2.2.2.2.2.2.2.2)
 else none
 else none
 else none
 else none).bind fun j4 =>
 bif eqI j4.2.2.2.2.2.2.2.2.2.2.1.2.2.1 9 then
 bif inI (W64 (j4.2.2.2.2.2.2.2.2.2.2.1.1.1 - 1)) 8 then
 (j4.2.2.2.2.2.2.2.2.1[(W64 (j4.2.2.2.2.2.2.2.2.2.2.1.1.1 - 1)).toNat]?).bind fun _x2 =>
 bif Nat.beq (List.length j4.2.1) (List.length j4.2.1) then
 bif Nat.beq (List.length j4.2.2.2.2.2.2.2.2.2.2.2.1) (List.length j4.2.2.2.2.2.2.2.2.2.2.2.1) then
 bif Nat.beq (List.length j4.2.2.2.2.2.2.2.2.2.2.2.2.1) (List.length j4.2.2.2.2.2.2.2.2.2.2.2.2.1) then
 bif Nat.beq (List.length j4.2.2.2.2.2.2.2.2.2.2.2.2.2) (List.length j4.2.2.2.2.2.2.2.2.2.2.2.2.2) then
 some (.inl ((W64 (j4.1 + 1), j4.2.1, j4.2.2.1, j4.2.2.2.1, j4.2.2.2.2.1, j4.2.2.2.2.2.1, j4.2.2.2.2.2.2.1, j4.2.2.2.2.2.2.2.1, j4.2.2.2.2.2.2.2.2.1.set ((W64 (j4.2.2.2.2.2.2.2.2.2.2.1.1.1 - 1)).toNat) true, j4.2.2.2.2.2.2.2.2.2.1, j4.2.2.2.2.2.2.2.2.2.2.2.1, j4.2.2.2.2.2.2.2.2.2.2.2.2.1, j4.2.2.2.2.2.2.2.2.2.2.2.2.2)))
 else none
 else none
 else none
 else none
 else none
 else
 bif Nat.beq (List.length j4.2.1) (List.length j4.2.1) then
 bif Nat.beq (List.length j4.2.2.2.2.2.2.2.2.2.2.2.1) (List.length j4.2.2.2.2.2.2.2.2.2.2.2.1) then
 bif Nat.beq (List.length j4.2.2.2.2.2.2.2.2.2.2.2.2.1) (List.length j4.2.2.2.2.2.2.2.2.2.2.2.2.1) then
 bif Nat.beq (List.length j4.2.2.2.2.2.2.2.2.2.2.2.2.2) (List.length j4.2.2.2.2.2.2.2.2.2.2.2.2.2) then
 some (.inl (W64 (j4.1 + 1), j4.2.1, j4.2.2.1, j4.2.2.2.1, j4.2.2.2.2.1, j4.2.2.2.2.2.1, j4.2.2.2.2.2.2.1, j4.2.2.2.2.2.2.2.1, j4.2.2.2.2.2.2.2.2.1, j4.2.2.2.2.2.2.2.2.2.1, j4.2.2.2.2.2.2.2.2.2.2.2.1, j4.2.2.2.2.2.2.2.2.2.2.2.2.1, j4.2.2.2.2.2.2.2.2.2.2.2.2.2))
 else none
 else none
 else none
 else none
 else none
 else
 bif Nat.beq (List.length t24) (List.length t24) then
 bif Nat.beq (List.length t25) (List.length t25) then
 bif Nat.beq (List.length t35) (List.length t35) then
 some (.inr (l, t2, t22, t23, t3, t32, t33, t34, t24, t25, t35))
 else none
 else none
 else none)
def z3f (s : zdb) : Option (zdb ⊕ ziu) := zd5 s.1 s.2.1 s.2.2.1 s.2.2.2.1 s.2.2.2.2.1 s.2.2.2.2.2.1 s.2.2.2.2.2.2.1 s.2.2.2.2.2.2.2.1 s.2.2.2.2.2.2.2.2.1 s.2.2.2.2.2.2.2.2.2.1 s.2.2.2.2.2.2.2.2.2.2.1 s.2.2.2.2.2.2.2.2.2.2.2.1 s.2.2.2.2.2.2.2.2.2.2.2.2
theorem zrz : SoundD Try.prog (.loop (subC (bodyC Try.f10) [1, 1, 1, 0, 1, 0, 0])) (loopD z6p.xe z6k (loopC z3f)) :=
 z0w (S := z6p.xe) (X := z6k) znd (h := (.two .no (.two (.two .no (.join (fun _ => z9b) (.join (fun _ => z7p) .no (.two (.two .no (.two .no (.two (.over (loopD z1p.xe z1o (loopC z1a))) (.two .no (.reg [5] []))))) .no)) (.join (fun _ => z7s) (.join (fun _ => z6u) .no .no) .no))) .no))) (z0p [.xs (fun _ => z9b), .xs (fun _ => z7p), .den (.loop (subC (bodyC Try.f10) [1, 1, 1, 0, 1, 0, 0, 1, 0, 0, 1, 0, 1, 0, 1, 1, 0, 0, 0])) (loopD z1p.xe z1o (loopC z1a)), .xs (fun _ => z7s), .xs (fun _ => z6u)] (by kernel_rfl) ⟨(z2j zjr), (z2j zig), zdp, (z2j zii), (z2j zhr), trivial⟩) (z0c z6p) zqy z3f (fun s => by kernel_rfl)
def zvi : Shp := ⟨1, 1, [(0, .ag [.d c1, .wn 1 c14, .d c5, .d c16, .d (.arr 8 .bool)])], [.row 67 c9, .row 49 c14]⟩
def z11a : XS := .one .ret zvi.xe
theorem z1c0 : z11a.OK := XS.one_ok (z0c zvi)
def zop (l : List T1) : Option (((List Int) × (List T2) × (List Int) × (List Bool) × (List T1) × (List T4))) :=
 winK l 0 (List.length l) fun w =>
 (zo5 w).bind fun r =>
 bif Nat.beq (List.length l) (List.length l) then
 (zko l).bind fun r2 =>
 bif Nat.beq (List.length l) (List.length r2.2) then
 bif Nat.beq 0 (List.length ([] : List T4)) then
 bif Nat.beq 0 (List.length ([] : List T2)) then
 bif Nat.beq 0 (List.length ([] : List T4)) then
 (loopC z3f (0, r2.2, List.replicate 8 (0 : Int), List.replicate 8 (0 : Int), List.replicate 8 false, r, r2.1, List.replicate 8 (0 : Int), List.replicate 8 false, List.replicate 8 (0 : Int), ([] : List T4), ([] : List T2), ([] : List T4))).bind fun o =>
 bif Nat.beq (List.length o.2.2.2.2.2.2.2.2.2.2) (List.length o.2.2.2.2.2.2.2.2.2.2) then
 some (o.2.2.2.2.1, o.2.2.2.2.2.1, o.2.2.2.2.2.2.1, o.2.2.2.2.2.2.2.1, o.1, o.2.2.2.2.2.2.2.2.2.2)
 else none
 else none
 else none
 else none
 else none
 else none
def z10w : Sig := ⟨10, [.wn 0 c9], [.row 67 c9], 1, z11a⟩
def zxt (x : (List T1)) : Option (((List Int) × (List T2) × (List Int) × (List Bool) × (List T1) × (List T4))) := zop x
theorem z1en : FnOK Try.prog z10w zxt :=
 fn_ok znd (h := (.two .no (.two .no (.two .no (.two (.two .no (.over (loopD z6p.xe z6k (loopC z3f)))) .no))))) Try.func10 (z0p [.den (.loop (subC (bodyC Try.f10) [1, 1, 1, 0, 1, 0, 0])) (loopD z6p.xe z6k (loopC z3f))] (by kernel_rfl) ⟨zrz, trivial⟩) (by kernel_rfl) z1c0 (fun x => by kernel_rfl)
def z1n6 : Env := ⟨[(entQ z1do z1bu)], [], [(entD z10w zxt)]⟩
theorem z14x : EnvsOK Try.prog z1n6 := ⟨z0o (z0q z1o0) (z0x _), z0s _, z1kn (z1pv z1en) (z0t _)⟩
def zlc : Shp := ⟨27, 0, [(3, .wn 0 c9)], [.row 67 c9]⟩
def zat : XS := .one (.exit 0) zlc.xe
theorem zw1 : zat.OK := XS.one_ok (z0c zlc)
def zay : Shp := ⟨27, 0, [(0, .d c3), (3, .wn 0 c9), (4, .d (.int .i64))], [.row 67 c9]⟩
abbrev zhh := (List T1) × Int × (List T1)
abbrev zo4 := ((List T1))
def zhd (l : List T1) (i : Int) (out : List T1) : Option (zhh ⊕ zo4) :=
 z0u (List.length l) (
 bif ltI i (List.length l : Nat) then
 bif Nat.beq (List.length out) (List.length out) then
 (zop out).bind fun r =>
 (idxI l i).bind fun x =>
 winK r.2.2.2.2.2 0 (List.length r.2.2.2.2.2) fun w =>
 (z10o (r.1, w, r.2.1, r.2.2.1, r.2.2.2.1) x).bind fun r2 =>
 bif eqI r2 0 then
 (idxI l i).bind fun x2 =>
 bif Nat.beq (List.length out) (List.length r.2.2.2.2.1) then
 appG (List.length r.2.2.2.2.1) (List.length ([x2] : List T1)) 184 fun _ =>
 bif Nat.beq (List.length (r.2.2.2.2.1 ++ ([x2] : List T1))) (List.length (r.2.2.2.2.1 ++ ([x2] : List T1))) then
 some (.inl (l, W64 (i + 1), r.2.2.2.2.1 ++ ([x2] : List T1)))
 else none
 else none
 else
 bif Nat.beq (List.length out) (List.length r.2.2.2.2.1) then
 some (.inl (l, W64 (i + 1), r.2.2.2.2.1))
 else none
 else none
 else
 bif Nat.beq (List.length out) (List.length out) then
 some (.inr out)
 else none)
def z5c (s : zhh) : Option (zhh ⊕ zo4) := zhd s.1 s.2.1 s.2.2
theorem zxe : SoundD Try.prog (.loop (subC (bodyC Try.f11) [1, 1, 0, 1, 0, 0])) (loopD zay.xe zat (loopC z5c)) :=
 z0w (S := zay.xe) (X := zat) z14x (h := .no) (z0p [] (by kernel_rfl) trivial) (z0c zay) zw1 z5c (fun s => by kernel_rfl)
def z12l : Shp := ⟨1, 0, [(0, .d c3)], []⟩
def z1am : XS := .one .ret z12l.xe
theorem z1h6 : z1am.OK := XS.one_ok (z0c z12l)
def zri (l : List T1) : Option (((List T1))) :=
 bif Nat.beq 0 (List.length ([] : List T1)) then
 (loopC z5c (l, 0, ([] : List T1))).bind fun o =>
 winK o 0 (List.length o) fun w =>
 some w
 else none
def z1a2 : Sig := ⟨11, [.d c3], [], 0, z1am⟩
def z17n (x : (List T1)) : Option (((List T1))) := zri x
theorem z1lf : FnOK Try.prog z1a2 z17n :=
 fn_ok z14x (h := (.two .no (.two .no (.two (.two .no (.over (loopD zay.xe zat (loopC z5c)))) .no)))) Try.func11 (z0p [.den (.loop (subC (bodyC Try.f11) [1, 1, 0, 1, 0, 0])) (loopD zay.xe zat (loopC z5c))] (by kernel_rfl) ⟨zxe, trivial⟩) (by kernel_rfl) z1h6 (fun x => by kernel_rfl)
def z1oi : Env := ⟨[], [], []⟩
theorem z12h : EnvsOK Try.prog z1oi := ⟨z0x _, z0s _, z0t _⟩
def zl8 : Shp := ⟨26, 0, [], []⟩
def zlq : Shp := ⟨26, 0, [(4, .d .bool)], []⟩
def zab : XS := .or (.exit 0) zl8.xe (.one .ret zlq.xe)
theorem zwj : zab.OK := XS.or_ok (z0c zl8) (XS.one_ok (z0c zlq))
def zal : Shp := ⟨26, 0, [(0, .d c5), (1, .d c5), (5, .d (.int .i64))], []⟩
abbrev zhc := (List T2) × (List T2) × Int
abbrev znh := (Unit) ⊕ (Bool)
def zgy (a : List T2) (b : List T2) (i : Int) : Option (zhc ⊕ znh) :=
 z0u (List.length a) (
 bif ltI i (List.length a : Nat) then
 (idxI a i).bind fun x =>
 (idxI b i).bind fun x2 =>
 bif !(eqU c6 x x2) then
 some (.inr (.inr false))
 else
 some (.inl (a, b, W64 (i + 1)))
 else
 some (.inr (.inl ())))
def z5f (s : zhc) : Option (zhc ⊕ znh) := zgy s.1 s.2.1 s.2.2
theorem zxh : SoundD Try.prog (.loop (subC (bodyC Try.f41) [1, 1, 0, 1, 0, 0])) (loopD zal.xe zab (loopC z5f)) :=
 z0w (S := zal.xe) (X := zab) z12h (h := .no) (z0p [] (by kernel_rfl) trivial) (z0c zal) zwj z5f (fun s => by kernel_rfl)
def z12s : Shp := ⟨1, 0, [(0, .d .bool)], []⟩
def z1ax : XS := .one .ret z12s.xe
theorem z1gm : z1ax.OK := XS.one_ok (z0c z12s)
def zwm (a : List T2) (b : List T2) : Option ((Bool)) :=
 z0u (List.length a) (
 z0u (List.length b) (
 bif neI (List.length a : Nat) (List.length b : Nat) then
 some false
 else
 (loopC z5f (a, b, 0)).bind fun o =>
 Sum.elim (fun y =>
 some true) (fun y2 =>
 some y2) o))
def z1aw : Sig := ⟨41, [.d c5, .d c5], [], 0, z1ax⟩
def z18b (x : (List T2) × (List T2)) : Option ((Bool)) := zwm x.1 x.2
theorem z1ll : FnOK Try.prog z1aw z18b :=
 fn_ok z12h (h := (.two .no (.two .no (.two (.two .no (.over (loopD zal.xe zab (loopC z5f)))) .no)))) Try.func41 (z0p [.den (.loop (subC (bodyC Try.f41) [1, 1, 0, 1, 0, 0])) (loopD zal.xe zab (loopC z5f))] (by kernel_rfl) ⟨zxh, trivial⟩) (by kernel_rfl) z1gm (fun x => by kernel_rfl)
def z1m9 : Env := ⟨[], [], []⟩
theorem z12v : EnvsOK Try.prog z1m9 := ⟨z0x _, z0s _, z0t _⟩
def zle : Shp := ⟨26, 0, [], []⟩
def zm7 : Shp := ⟨26, 0, [(4, .d .bool)], []⟩
def zb0 : XS := .or (.exit 0) zle.xe (.one .ret zm7.xe)
theorem zwn : zb0.OK := XS.or_ok (z0c zle) (XS.one_ok (z0c zm7))
def zau : Shp := ⟨26, 0, [(0, .d c10), (1, .d c10), (5, .d (.int .i64))], []⟩
abbrev zhf := (List T3) × (List T3) × Int
abbrev zoa := (Unit) ⊕ (Bool)
def zh4 (a : List T3) (b : List T3) (i : Int) : Option (zhf ⊕ zoa) :=
 z0u (List.length a) (
 bif ltI i (List.length a : Nat) then
 (idxI a i).bind fun x =>
 (idxI b i).bind fun x2 =>
 bif !(eqU c11 x x2) then
 some (.inr (.inr false))
 else
 some (.inl (a, b, W64 (i + 1)))
 else
 some (.inr (.inl ())))
def z5a (s : zhf) : Option (zhf ⊕ zoa) := zh4 s.1 s.2.1 s.2.2
theorem zy7 : SoundD Try.prog (.loop (subC (bodyC Try.f20) [1, 1, 0, 1, 0, 0])) (loopD zau.xe zb0 (loopC z5a)) :=
 z0w (S := zau.xe) (X := zb0) z12v (h := .no) (z0p [] (by kernel_rfl) trivial) (z0c zau) zwn z5a (fun s => by kernel_rfl)
def z13b : Shp := ⟨1, 0, [(0, .d .bool)], []⟩
def z1ag : XS := .one .ret z13b.xe
theorem z1gl : z1ag.OK := XS.one_ok (z0c z13b)
def zws (a : List T3) (b : List T3) : Option ((Bool)) :=
 z0u (List.length a) (
 z0u (List.length b) (
 bif neI (List.length a : Nat) (List.length b : Nat) then
 some false
 else
 (loopC z5a (a, b, 0)).bind fun o =>
 Sum.elim (fun y =>
 some true) (fun y2 =>
 some y2) o))
def z1a1 : Sig := ⟨20, [.d c10, .d c10], [], 0, z1ag⟩
def z18c (x : (List T3) × (List T3)) : Option ((Bool)) := zws x.1 x.2
theorem z1l6 : FnOK Try.prog z1a1 z18c :=
 fn_ok z12v (h := (.two .no (.two .no (.two (.two .no (.over (loopD zau.xe zb0 (loopC z5a)))) .no)))) Try.func20 (z0p [.den (.loop (subC (bodyC Try.f20) [1, 1, 0, 1, 0, 0])) (loopD zau.xe zb0 (loopC z5a))] (by kernel_rfl) ⟨zy7, trivial⟩) (by kernel_rfl) z1gl (fun x => by kernel_rfl)
def z1n1 : Env := ⟨[(entQ z1aw z18b), (entQ z1a1 z18c)], [], []⟩
theorem z15a : EnvsOK Try.prog z1n1 := ⟨z0o (z0q z1ll) (z0o (z0q z1l6) (z0x _)), z0s _, z0t _⟩
def zm5 : Shp := ⟨102, 0, [], []⟩
def zlp : Shp := ⟨102, 0, [(4, .d .bool)], []⟩
def za8 : XS := .or (.exit 0) zm5.xe (.one .ret zlp.xe)
theorem zw4 : za8.OK := XS.or_ok (z0c zm5) (XS.one_ok (z0c zlp))
def zaa : Shp := ⟨102, 0, [(2, .pt 0 r15 []), (3, .pt 1 r15 []), (5, .d (.int .i64))], [.var 33 (.d c17), .var 33 (.d c17)]⟩
abbrev zh1 := Int × T5 × T5
abbrev znp := (Unit) ⊕ (Bool)
def zh3 (i : Int) (a : T5) (b : T5) : Option (zh1 ⊕ znp) :=
 z0u (List.length a.2.1) (
 bif ltI i (List.length a.2.1 : Nat) then
 (idxI a.2.1 i).bind fun x =>
 (idxI b.2.1 i).bind fun x2 =>
 bif !(eqU c0 x.1 x2.1) then
 some (.inr (.inr false))
 else
 bif !(x.2.1 == x2.2.1) then
 some (.inr (.inr false))
 else
 bif !(eqU c0 x.2.2.1 x2.2.2.1) then
 some (.inr (.inr false))
 else
 bif !(eqS x.2.2.2.1 x2.2.2.2.1) then
 some (.inr (.inr false))
 else
 bif !(eqU c1 x.2.2.2.2.1 x2.2.2.2.2.1) then
 some (.inr (.inr false))
 else
 (zws x.2.2.2.2.2 x2.2.2.2.2.2).bind fun r =>
 bif !r then
 some (.inr (.inr false))
 else
 some (.inl (W64 (i + 1), a, b))
 else
 some (.inr (.inl ())))
def z5h (s : zh1) : Option (zh1 ⊕ znp) := zh3 s.1 s.2.1 s.2.2
theorem zxz : SoundD Try.prog (.loop (subC (bodyC Try.f13) [1, 1, 0, 1, 0, 0])) (loopD zaa.xe za8 (loopC z5h)) :=
 z0w (S := zaa.xe) (X := za8) z15a (h := .no) (z0p [] (by kernel_rfl) trivial) (z0c zaa) zw4 z5h (fun s => by kernel_rfl)
def z15b : Shp := ⟨1, 0, [(0, .d .bool)], []⟩
def z1bx : XS := .one .ret z15b.xe
theorem z1g5 : z1bx.OK := XS.one_ok (z0c z15b)
def zwv (a : T5) (b : T5) : Option ((Bool)) :=
 bif !(eqU c1 a.1 b.1) then
 some false
 else
 bif !(eqU c16 a.2.2.2.1 b.2.2.2.1) then
 some false
 else
 bif !(eqU (.arr 8 .bool) a.2.2.2.2 b.2.2.2.2) then
 some false
 else
 (zwm a.2.2.1 b.2.2.1).bind fun r =>
 bif !r then
 some false
 else
 z0u (List.length a.2.1) (
 z0u (List.length b.2.1) (
 bif neI (List.length a.2.1 : Nat) (List.length b.2.1 : Nat) then
 some false
 else
 (loopC z5h (0, a, b)).bind fun o =>
 Sum.elim (fun y =>
 some true) (fun y2 =>
 some y2) o))
def z1a5 : Sig := ⟨13, [.d c17, .d c17], [], 0, z1bx⟩
def z18k (x : T5 × T5) : Option ((Bool)) := zwv x.1 x.2
theorem z1lk : FnOK Try.prog z1a5 z18k :=
 fn_ok z15a (h := (.two .no (.two .no (.two (.two .no (.over (loopD zaa.xe za8 (loopC z5h)))) .no)))) Try.func13 (z0p [.den (.loop (subC (bodyC Try.f13) [1, 1, 0, 1, 0, 0])) (loopD zaa.xe za8 (loopC z5h))] (by kernel_rfl) ⟨zxz, trivial⟩) (by kernel_rfl) z1g5 (fun x => by kernel_rfl)
end Go.Proofs.Ytfbdjicfkcklfaa
set_option maxRecDepth 100000
set_option linter.unusedVariables false
noncomputable section
namespace Go.Proofs.Ytfbdjicfkcklfaa
open Go.Tm Go.Ab
def z1bz : Env := ⟨[(entQ z18g z13e), (entQ z1ae z18j), (entQ z1a2 z17n), (entQ zv4 zsp), (entQ zi2 zfv), (entQ zqp zou), (entQ z1a5 z18k)], [], []⟩
theorem z15n : EnvsOK Try.prog z1bz := ⟨z0o (z0q z1j6) (z0o (z0q z1l9) (z0o (z0q z1lf) (z0o (z0q z15i) (z0o (z0q zjk) (z0o (z0q zxu) (z0o (z0q z1lk) (z0x _))))))), z0s _, z0t _⟩
def zqk : Shp := ⟨1, 0, [(0, .d .bool)], []⟩
def ztw : XS := .one .ret zqk.xe
theorem z13a : ztw.OK := XS.one_ok (z0c zqk)
def zov (l : List T1) (a : List Int) (b : List Int) : Option ((Bool)) :=
 (zd2).bind fun r =>
 bif !r then
 (zd2).bind fun r2 =>
 some r2
 else
 (zqn l).bind fun r3 =>
 bif !r3 then
 (zd2).bind fun r4 =>
 some r4
 else
 (zri l).bind fun r5 =>
 (zem r5).bind fun r6 =>
 (zgd a b).bind fun r7 =>
 (zc7 r6 a).bind fun r8 =>
 (zc7 r8 r7).bind fun r9 =>
 (zc7 r6 r7).bind fun r10 =>
 (zwv r9 r10).bind fun r11 =>
 some r11
def z1c5 : Sig := ⟨5, [.d c3, .d c1, .d c1], [], 0, ztw⟩
def zsd (x : (List T1) × (List Int) × (List Int)) : Option ((Bool)) := zov x.1 x.2.1 x.2.2
theorem z19d : FnOK Try.prog z1c5 zsd :=
 fn_ok z15n (h := .no) Try.func5 (z0p [] (by kernel_rfl) trivial) (by kernel_rfl) z13a (fun x => by kernel_rfl)
end Go.Proofs.Ytfbdjicfkcklfaa
set_option maxRecDepth 100000
set_option linter.unusedSimpArgs false
set_option linter.unusedVariables false
namespace Go.Proofs.Ytfbdjicfkcklfaa
open Go.Tm Go.Ab
theorem z0z {A : Type} {a b : T0} {x y : Option A} {Q : A → Prop} (h : a = b → Ok x Q) (g : ¬ a = b → Ok y Q) : Ok (bif eqU c0 a b then x else y) Q := z1mq (u := c0) rfl h g
def VecOk (v : List Int) : Prop := v.length = 8
def joinV (a b : List Int) : List Int := List.zipWith (fun x y => if x < y then y else x) a b
theorem zxf {a b : List Int} (ha : VecOk a) (hb : VecOk b) : VecOk (joinV a b) := by unfold VecOk joinV at *; simp [ha, hb]
def fillV (v : List Int) (i : Nat) : List Int := v.take i ++ List.replicate (8 - i) 0
theorem z1jn {v : List Int} (h : v.length = 8) {i : Nat} (hi : i ≤ 8) : (fillV v i).length = 8 := by unfold fillV; simp; omega
theorem z1bs {v : List Int} (h : v.length = 8) {i : Nat} (hi : i < 8) {x : Int} (hx : x = v[i]) : (fillV v i).set i x = fillV v (i + 1) := by
 unfold fillV
 rw [List.set_append_right _ _ (by simp; omega), hx, List.take_succ_eq_append_getElem (by omega), List.append_assoc]
 have : i - (List.take i v).length = 0 := by simp; omega
 rw [this, show 8 - i = (8 - (i + 1)) + 1 by omega, List.replicate_succ]; rfl
theorem z1qs {v : List Int} (h : v.length = 8) {i : Nat} (hi : i < 8) (hx : v[i] = 0) : fillV v i = fillV v (i + 1) := by
 unfold fillV
 rw [List.take_succ_eq_append_getElem (by omega), hx, show 8 - i = (8 - (i + 1)) + 1 by omega, List.replicate_succ]; simp
theorem z1ju {v : List Int} (h : v.length = 8) : fillV v 8 = v := by unfold fillV; rw [List.take_of_length_le (by omega)]; simp
theorem z15c {a b : List Int} (ha : VecOk a) (hb : VecOk b) : zgd a b = some (joinV a b) := by
 refine ok_is ?_
 have hj := zxf ha hb
 unfold VecOk at ha hb hj
 unfold zgd
 refine z0a (z1n 8 (fun i _ => ((i : Int), a, b, List.replicate 8 (0 : Int), fillV (joinV a b) i)) (fun _ (_ : Unit) => True) () rfl trivial (fun _ _ => ?_) fun i _ hi _ => ?_)
 · unfold z5e zgw
   dsimp only
   repeat' first
     | (dsimp only [Int.toNat_natCast, List.length_nil])
     | with_reducible first | refine z0g ?_ | refine z0f ?_ | refine z0d ?_ | refine z0e ?_ | refine z0b ?_ | refine z0i ?_ | refine qs ?_ | refine qb ?_ | refine z0j ?_ | refine qw ?_ | refine z0m ?_ | refine z0k ?_ | refine qi ?_ | refine qg (h := ?_) | refine qx (h := ?_) | refine qy (h := ?_) | refine qa ?_ | refine qc ?_ | refine ql ?_ | refine qp ?_ | refine z0a ?_ | rfl
     | (with_reducible first | refine ok_lt ?_ ?_ | refine ok_le ?_ ?_ | refine z0h ?_ ?_ | refine z0l ?_ ?_ | refine z0n ?_ ?_ | refine qu ?_ ?_ | refine ok_if ?_ ?_) <;> intro _ <;> try (exfalso; omega)
   exact z1ju hj
 · unfold z5e zgw
   dsimp only
   have hl := z1jn hj (i := i) (by omega)
   have hji : (joinV a b)[i] = if a[i] < b[i] then b[i] else a[i] := by simp [joinV]
   repeat' first
     | (dsimp only [Int.toNat_natCast, List.length_nil])
     | with_reducible first | refine z0g ?_ | refine z0f ?_ | refine z0d ?_ | refine z0e ?_ | refine z0b ?_ | refine z0i ?_ | refine qs ?_ | refine qb ?_ | refine z0j ?_ | refine qw ?_ | refine z0m ?_ | refine z0k ?_ | refine qi ?_ | refine qg (h := ?_) | refine qx (h := ?_) | refine qy (h := ?_) | refine qa ?_ | refine qc ?_ | refine ql ?_ | refine qp ?_ | refine z0a ?_ | rfl
     | (with_reducible first | refine ok_lt ?_ ?_ | refine ok_le ?_ ?_ | refine z0h ?_ ?_ | refine z0l ?_ ?_ | refine z0n ?_ ?_ | refine qu ?_ ?_ | refine ok_if ?_ ?_) <;> intro _ <;> try (exfalso; omega)
   · rename_i h1 h2
     refine ⟨(), ?_, trivial⟩
     rw [z0r (by omega)]
     try simp only [Int.toNat_natCast] at h2 ⊢
     rw [List.set_set, z1bs hj hi (hji.trans (if_pos h2)).symm]; rfl
   · rename_i h1 h2
     refine ⟨(), ?_, trivial⟩
     rw [z0r (by omega)]
     try simp only [Int.toNat_natCast] at h2 ⊢
     rw [z1bs hj hi (hji.trans (if_neg h2)).symm]; rfl
def oneV (id : T0) : List Int := (List.range 8).map fun i : Nat => if (i : Int) + 1 = id.1 then id.2 else 0
theorem zes (id : T0) : VecOk (oneV id) := by unfold VecOk oneV; simp
theorem z1xl (id : T0) : z10x id = some (oneV id) := by
 refine ok_is ?_
 have hj := zes id
 unfold VecOk at hj
 unfold z10x
 refine z0a (z1n 8 (fun i _ => ((i : Int), id, List.replicate 8 (0 : Int), fillV (oneV id) i)) (fun _ (_ : Unit) => True) () rfl trivial (fun _ _ => ?_) fun i _ hi _ => ?_)
 · unfold z5q zib
   dsimp only
   repeat' first
     | (dsimp only [Int.toNat_natCast, List.length_nil])
     | with_reducible first | refine z0g ?_ | refine z0f ?_ | refine z0d ?_ | refine z0e ?_ | refine z0b ?_ | refine z0i ?_ | refine qs ?_ | refine qb ?_ | refine z0j ?_ | refine qw ?_ | refine z0m ?_ | refine z0k ?_ | refine qi ?_ | refine qg (h := ?_) | refine qx (h := ?_) | refine qy (h := ?_) | refine qa ?_ | refine qc ?_ | refine ql ?_ | refine qp ?_ | refine z0a ?_ | rfl
     | (with_reducible first | refine ok_lt ?_ ?_ | refine ok_le ?_ ?_ | refine z0h ?_ ?_ | refine z0l ?_ ?_ | refine z0n ?_ ?_ | refine qu ?_ ?_ | refine ok_if ?_ ?_) <;> intro _ <;> try (exfalso; omega)
   exact z1ju hj
 · unfold z5q zib
   dsimp only
   have hl := z1jn hj (i := i) (by omega)
   have hji : (oneV id)[i] = if (i : Int) + 1 = id.1 then id.2 else 0 := by simp [oneV]
   repeat' first
     | (dsimp only [Int.toNat_natCast, List.length_nil])
     | with_reducible first | refine z0g ?_ | refine z0f ?_ | refine z0d ?_ | refine z0e ?_ | refine z0b ?_ | refine z0i ?_ | refine qs ?_ | refine qb ?_ | refine z0j ?_ | refine qw ?_ | refine z0m ?_ | refine z0k ?_ | refine qi ?_ | refine qg (h := ?_) | refine qx (h := ?_) | refine qy (h := ?_) | refine qa ?_ | refine qc ?_ | refine ql ?_ | refine qp ?_ | refine z0a ?_ | rfl
     | (with_reducible first | refine ok_lt ?_ ?_ | refine ok_le ?_ ?_ | refine z0h ?_ ?_ | refine z0l ?_ ?_ | refine z0n ?_ ?_ | refine qu ?_ ?_ | refine ok_if ?_ ?_) <;> intro _ <;> try (exfalso; omega)
   · rename_i h1 h2
     refine ⟨(), ?_, trivial⟩
     rw [z0r (by omega)] at h2 ⊢
     try simp only [Int.toNat_natCast]
     rw [z1bs hj hi (hji.trans (if_pos h2)).symm]; rfl
   · rename_i h1 h2
     refine ⟨(), ?_, trivial⟩
     rw [z0r (by omega)] at h2 ⊢
     rw [z1qs hj hi (hji.trans (if_neg h2))]; rfl
def withV (v : List Int) (id : T0) : List Int := joinV v (oneV id)
theorem zj7 {v : List Int} (h : VecOk v) (id : T0) : VecOk (withV v id) := zxf h (zes id)
theorem zk4 {v : List Int} (h : VecOk v) (id : T0) : z9j v id = some (withV v id) := by
 unfold z9j; rw [z1xl]; simp only [Option.bind_some]; rw [z15c h (zes id)]; rfl
def getV (v : List Int) (rep : Int) : Int := if 1 ≤ rep ∧ rep ≤ 8 then (v[(rep - 1).toNat]?).getD 0 else 0
theorem z1gk {v : List Int} (h : VecOk v) (rep : Int) : zll v rep = some (getV v rep) := by
 refine ok_is ?_
 unfold VecOk at h
 unfold zll
 refine z0a (z1n 8 (fun i _ => (rep, (i : Int), v)) (fun i (_ : Unit) => ¬ (1 ≤ rep ∧ rep ≤ i)) () rfl (by omega) (fun _ hn => ?_) fun i _ hi hn => ?_)
 · unfold z7r zk8
   dsimp only
   repeat' first
     | (dsimp only [Int.toNat_natCast, List.length_nil])
     | with_reducible first | refine z0g ?_ | refine z0f ?_ | refine z0d ?_ | refine z0e ?_ | refine z0b ?_ | refine z0i ?_ | refine qs ?_ | refine qb ?_ | refine z0j ?_ | refine qw ?_ | refine z0m ?_ | refine z0k ?_ | refine qi ?_ | refine qg (h := ?_) | refine qx (h := ?_) | refine qy (h := ?_) | refine qa ?_ | refine qc ?_ | refine ql ?_ | refine qp ?_ | refine z0a ?_ | rfl
     | (with_reducible first | refine ok_lt ?_ ?_ | refine ok_le ?_ ?_ | refine z0h ?_ ?_ | refine z0l ?_ ?_ | refine z0n ?_ ?_ | refine qu ?_ ?_ | refine ok_if ?_ ?_) <;> intro _ <;> try (exfalso; omega)
   unfold getV; rw [if_neg (by omega)]
 · unfold z7r zk8
   dsimp only
   repeat' first
     | (dsimp only [Int.toNat_natCast, List.length_nil])
     | with_reducible first | refine z0g ?_ | refine z0f ?_ | refine z0d ?_ | refine z0e ?_ | refine z0b ?_ | refine z0i ?_ | refine qs ?_ | refine qb ?_ | refine z0j ?_ | refine qw ?_ | refine z0m ?_ | refine z0k ?_ | refine qi ?_ | refine qg (h := ?_) | refine qx (h := ?_) | refine qy (h := ?_) | refine qa ?_ | refine qc ?_ | refine ql ?_ | refine qp ?_ | refine z0a ?_ | rfl
     | (with_reducible first | refine ok_lt ?_ ?_ | refine ok_le ?_ ?_ | refine z0h ?_ ?_ | refine z0l ?_ ?_ | refine z0n ?_ ?_ | refine qu ?_ ?_ | refine ok_if ?_ ?_) <;> intro _ <;> try (exfalso; omega)
   · rename_i h1 h2
     rw [z0r (by omega)] at h2
     unfold getV
     rw [if_pos (by omega), show (rep - 1).toNat = i by omega, getE (by omega)]; rfl
   · rename_i h1 h2
     rw [z0r (by omega)] at h2
     refine ⟨(), ?_, by omega⟩
     rw [z0r (by omega)]; rfl
def hasV (v : List Int) (id : T0) : Bool := ltI 0 id.2 && leI id.2 (getV v id.1)
theorem z1x6 {v : List Int} (h : VecOk v) (rep : Int) : z1cr v rep = some (getV v rep) := by
 refine ok_is ?_
 unfold VecOk at h
 unfold z1cr
 by_cases h1 : 1 ≤ rep ∧ rep ≤ 8
 · rw [z0r (by omega)]
   repeat' first
     | (dsimp only [Int.toNat_natCast, List.length_nil])
     | with_reducible first | refine z0g ?_ | refine z0f ?_ | refine z0d ?_ | refine z0e ?_ | refine z0b ?_ | refine z0i ?_ | refine qs ?_ | refine qb ?_ | refine z0j ?_ | refine qw ?_ | refine z0m ?_ | refine z0k ?_ | refine qi ?_ | refine qg (h := ?_) | refine qx (h := ?_) | refine qy (h := ?_) | refine qa ?_ | refine qc ?_ | refine ql ?_ | refine qp ?_ | refine z0a ?_ | rfl
     | (with_reducible first | refine ok_lt ?_ ?_ | refine ok_le ?_ ?_ | refine z0h ?_ ?_ | refine z0l ?_ ?_ | refine z0n ?_ ?_ | refine qu ?_ ?_ | refine ok_if ?_ ?_) <;> intro _ <;> try (exfalso; omega)
   unfold getV
   rw [if_pos h1, getE (by omega)]; rfl
 · rw [show getV v rep = 0 by unfold getV; rw [if_neg h1]]
   repeat' first
     | (dsimp only [Int.toNat_natCast, List.length_nil])
     | with_reducible first | refine z0g ?_ | refine z0f ?_ | refine z0d ?_ | refine z0e ?_ | refine z0b ?_ | refine z0i ?_ | refine qs ?_ | refine qb ?_ | refine z0j ?_ | refine qw ?_ | refine z0m ?_ | refine z0k ?_ | refine qi ?_ | refine qg (h := ?_) | refine qx (h := ?_) | refine qy (h := ?_) | refine qa ?_ | refine qc ?_ | refine ql ?_ | refine qp ?_ | refine z0a ?_ | rfl
     | (with_reducible first | refine ok_lt ?_ ?_ | refine ok_le ?_ ?_ | refine z0h ?_ ?_ | refine z0l ?_ ?_ | refine z0n ?_ ?_ | refine qu ?_ ?_ | refine ok_if ?_ ?_) <;> intro _ <;> try (exfalso; omega)
theorem z1j3 {v : List Int} (h : VecOk v) (id : T0) : zww v id = some (hasV v id) := by
 refine ok_is ?_
 unfold zww hasV
 rw [z1x6 h]
 repeat' first
   | (dsimp only [Int.toNat_natCast, List.length_nil])
   | with_reducible first | refine z0g ?_ | refine z0f ?_ | refine z0d ?_ | refine z0e ?_ | refine z0b ?_ | refine z0i ?_ | refine qs ?_ | refine qb ?_ | refine z0j ?_ | refine qw ?_ | refine z0m ?_ | refine z0k ?_ | refine qi ?_ | refine qg (h := ?_) | refine qx (h := ?_) | refine qy (h := ?_) | refine qa ?_ | refine qc ?_ | refine ql ?_ | refine qp ?_ | refine z0a ?_ | rfl
   | (with_reducible first | refine ok_lt ?_ ?_ | refine ok_le ?_ ?_ | refine z0h ?_ ?_ | refine z0l ?_ ?_ | refine z0n ?_ ?_ | refine qu ?_ ?_ | refine ok_if ?_ ?_) <;> intro _ <;> try (exfalso; omega)
 · rw [ltI_t (by omega)]; rfl
 · rw [ltI_f (by omega)]; rfl
theorem zt2 (a b : T0) : zas a b = some (ltI a.2 b.2 || (eqI a.2 b.2 && ltI a.1 b.1)) := by
 refine ok_is ?_
 unfold zas
 repeat' first
   | (dsimp only [Int.toNat_natCast, List.length_nil])
   | with_reducible first | refine z0g ?_ | refine z0f ?_ | refine z0d ?_ | refine z0e ?_ | refine z0b ?_ | refine z0i ?_ | refine qs ?_ | refine qb ?_ | refine z0j ?_ | refine qw ?_ | refine z0m ?_ | refine z0k ?_ | refine qi ?_ | refine qg (h := ?_) | refine qx (h := ?_) | refine qy (h := ?_) | refine qa ?_ | refine qc ?_ | refine ql ?_ | refine qp ?_ | refine z0a ?_ | rfl
   | (with_reducible first | refine ok_lt ?_ ?_ | refine ok_le ?_ ?_ | refine z0h ?_ ?_ | refine z0l ?_ ?_ | refine z0n ?_ ?_ | refine qu ?_ ?_ | refine ok_if ?_ ?_) <;> intro _ <;> try (exfalso; omega)
 · rw [ltI_t (by assumption)]; rfl
 · rename_i h1 h2
   rw [ltI_f h1, eqI_t h2]; rfl
 · rw [ltI_f (by assumption), eqI_f (by assumption)]; rfl
def leqV (a b : List Int) : Bool := (List.zip a b).all fun x => leI x.1 x.2
end Go.Proofs.Ytfbdjicfkcklfaa
set_option maxRecDepth 100000
set_option linter.unusedSimpArgs false
set_option linter.unusedVariables false
namespace Go.Proofs.Ytfbdjicfkcklfaa
open Go.Tm Go.Ab
def leV (a b : List Int) : Prop := ∀ i, i < 8 → (a[i]?).getD 0 ≤ (b[i]?).getD 0
theorem z1vo (a : List Int) : leV a a := fun _ _ => Int.le_refl _
theorem zzs {a b c : List Int} (h : leV a b) (g : leV b c) : leV a c := fun i hi => Int.le_trans (h i hi) (g i hi)
theorem z1es {a b : List Int} (ha : VecOk a) (hb : VecOk b) (i : Nat) (hi : i < 8) : ((joinV a b)[i]?).getD 0 = if (a[i]?).getD 0 < (b[i]?).getD 0 then (b[i]?).getD 0 else (a[i]?).getD 0 := by
 unfold VecOk at ha hb
 have hj : (joinV a b).length = 8 := zxf ha hb
 rw [getE (by omega), getE (by omega), getE (by omega)]
 simp [joinV]
theorem zwe {a b : List Int} (ha : VecOk a) (hb : VecOk b) : leV a (joinV a b) := fun i hi => by
 rw [z1es ha hb i hi]; split <;> omega
theorem z1p6 {a b : List Int} (ha : VecOk a) (hb : VecOk b) : leV b (joinV a b) := fun i hi => by
 rw [z1es ha hb i hi]; split <;> omega
theorem z1m6 {a b c : List Int} (ha : VecOk a) (hb : VecOk b) (h : leV a c) (g : leV b c) : leV (joinV a b) c := fun i hi => by
 rw [z1es ha hb i hi]; have := h i hi; have := g i hi; split <;> omega
def zeroV : List Int := List.replicate 8 0
theorem zsg : VecOk zeroV := List.length_replicate ..
theorem z1fv (i : Nat) : (zeroV[i]?).getD 0 = 0 := by unfold zeroV; rw [List.getElem?_replicate]; split <;> rfl
theorem z1q3 (id : T0) (i : Nat) (hi : i < 8) : ((oneV id)[i]?).getD 0 = if (i : Int) + 1 = id.1 then id.2 else 0 := by
 have hj : (oneV id).length = 8 := zes id
 rw [getE (by omega)]; simp [oneV]
def zqu (v : List Int) (id : T0) : Prop := id.2 ≤ getV v id.1
def natV (v : List Int) : Prop := ∀ i, i < 8 → 0 ≤ (v[i]?).getD 0
theorem z10q : natV zeroV := fun i _ => by rw [z1fv]; omega
theorem zpu {a b : List Int} (ha : VecOk a) (hb : VecOk b) (h : natV a) : natV (joinV a b) := fun i hi => Int.le_trans (h i hi) (zwe ha hb i hi)
theorem z1x3 {v : List Int} {id : T0} (h : natV v) (g : zqu v id) : leV (oneV id) v := fun i hi => by
 rw [z1q3 id i hi]
 split
 · rename_i e
   unfold zqu getV at g
   rw [if_pos (by omega), show (id.1 - 1).toNat = i by omega] at g
   exact g
 · exact h i hi
theorem z1f3 {v w : List Int} {id : T0} (hv : VecOk v) (h : leV v w) (hw : natV w) (g : zqu w id) : leV (withV v id) w := z1m6 hv (zes id) h (z1x3 hw g)
theorem z1k2 {v w : List Int} (h : leV v w) (r : Int) : getV v r ≤ getV w r := by
 unfold getV
 split
 · exact h _ (by omega)
 · exact Int.le_refl _
theorem z1e4 {v w : List Int} {id : T0} (h : leV v w) (g : zqu v id) : zqu w id := Int.le_trans g (z1k2 h _)
theorem z1dq {v : List Int} (hv : VecOk v) {id : T0} (hr : 1 ≤ id.1 ∧ id.1 ≤ 8) : zqu (withV v id) id := by
 have h := z1p6 hv (zes id) (id.1 - 1).toNat (by omega)
 rw [z1q3 id _ (by omega), if_pos (by omega)] at h
 unfold zqu getV
 rw [if_pos hr]; exact h
abbrev zg9 (e : T1) : Int := e.2.2.1
abbrev zi8 (e : T1) : List T0 := e.2.2.2.2.2.2.2.1
abbrev z1bl (e : T1) : List T0 := e.2.2.2.2.2.2.1
abbrev z1nw (e : T1) : List Int := e.2.2.2.2.2.2.2.2.2.1
abbrev evOff (e : T1) : Int := e.2.2.2.2.2.2.2.2.1
structure EvIn (e : T1) : Prop where
 dep : VecOk e.2.1
 nat : natV e.2.1
 name : e.2.2.2.2.2.1.length ≤ 30
 gone : (z1bl e).length ≤ 10
 base : (zi8 e).length ≤ 10
 data : (z1nw e).length ≤ 250
 off : -9223372036854775808 ≤ evOff e ∧ evOff e ≤ 9223372036854775807
def Chain (l : List T1) : Prop := ∀ i (h : i < l.length), ∀ b, (zi8 l[i])[0]? = some b → ∃ j, ∃ h : j < l.length, j < i ∧ l[j].1 = b
theorem in_is (l : List T0) (x : T0) (hl : l.length ≤ 1000) : ∃ b, zhj l x = some b := by
 have : Ok (zhj l x) (fun _ => True) := by
   unfold zhj
   refine z0a (z1n l.length (fun i _ => (l, (i : Int), x)) (fun _ (_ : Unit) => True) () rfl trivial (fun _ _ => ?_) fun i _ hi _ => ?_)
   · unfold z6l zgo
     dsimp only
     repeat' first
       | (dsimp only [Int.toNat_natCast, List.length_nil])
       | ((with_reducible refine z0z ?_ ?_) <;> intro _ <;> try (exfalso; omega))
       | with_reducible first | refine z0g ?_ | refine z0f ?_ | refine z0d ?_ | refine z0e ?_ | refine z0b ?_ | refine z0i ?_ | refine qs ?_ | refine qb ?_ | refine z0j ?_ | refine qw ?_ | refine z0m ?_ | refine z0k ?_ | refine qi ?_ | refine qg (h := ?_) | refine qx (h := ?_) | refine qy (h := ?_) | refine qa ?_ | refine qc ?_ | refine ql ?_ | refine qp ?_ | refine z0a ?_ | rfl
       | (with_reducible first | refine ok_lt ?_ ?_ | refine ok_le ?_ ?_ | refine z0h ?_ ?_ | refine z0l ?_ ?_ | refine z0n ?_ ?_ | refine qu ?_ ?_ | refine ok_if ?_ ?_) <;> intro _ <;> try (exfalso; omega)
   · unfold z6l zgo
     dsimp only
     repeat' first
       | (dsimp only [Int.toNat_natCast, List.length_nil])
       | ((with_reducible refine z0z ?_ ?_) <;> intro _ <;> try (exfalso; omega))
       | with_reducible first | refine z0g ?_ | refine z0f ?_ | refine z0d ?_ | refine z0e ?_ | refine z0b ?_ | refine z0i ?_ | refine qs ?_ | refine qb ?_ | refine z0j ?_ | refine qw ?_ | refine z0m ?_ | refine z0k ?_ | refine qi ?_ | refine qg (h := ?_) | refine qx (h := ?_) | refine qy (h := ?_) | refine qa ?_ | refine qc ?_ | refine ql ?_ | refine qp ?_ | refine z0a ?_ | rfl
       | (with_reducible first | refine ok_lt ?_ ?_ | refine ok_le ?_ ?_ | refine z0h ?_ ?_ | refine z0l ?_ ?_ | refine z0n ?_ ?_ | refine qu ?_ ?_ | refine ok_if ?_ ?_) <;> intro _ <;> try (exfalso; omega)
     exact ⟨(), by rw [z0r (by omega)]; rfl, trivial⟩
 obtain ⟨b, h, _⟩ := this
 exact ⟨b, h⟩
theorem zzz (e : T1) : zfb e = some (eqI (zg9 e) 3 || (eqI (zg9 e) 4 || eqI (zg9 e) 5)) := by
 refine ok_is ?_
 unfold zfb
 repeat' first
   | (dsimp only [Int.toNat_natCast, List.length_nil])
   | ((with_reducible refine z0z ?_ ?_) <;> intro _ <;> try (exfalso; omega))
   | with_reducible first | refine z0g ?_ | refine z0f ?_ | refine z0d ?_ | refine z0e ?_ | refine z0b ?_ | refine z0i ?_ | refine qs ?_ | refine qb ?_ | refine z0j ?_ | refine qw ?_ | refine z0m ?_ | refine z0k ?_ | refine qi ?_ | refine qg (h := ?_) | refine qx (h := ?_) | refine qy (h := ?_) | refine qa ?_ | refine qc ?_ | refine ql ?_ | refine qp ?_ | refine z0a ?_ | rfl
   | (with_reducible first | refine ok_lt ?_ ?_ | refine ok_le ?_ ?_ | refine z0h ?_ ?_ | refine z0l ?_ ?_ | refine z0n ?_ ?_ | refine qu ?_ ?_ | refine ok_if ?_ ?_) <;> intro _ <;> try (exfalso; omega)
 · rename_i h; rw [eqI_t h]; rfl
 · rename_i h g; rw [eqI_f h, eqI_t g]; rfl
 · rename_i h g; rw [eqI_f h, eqI_f g]; rfl
theorem z1w5 (l : List T1) (x : T0) (hl : l.length ≤ 1000) : Ok (zwc l x) fun r => (r.2 = true ∧ ∃ i, ∃ h : i < l.length, r.1 = l[i] ∧ l[i].1 = x ∧ ∀ j (hj : j < l.length), j < i → ¬ l[j].1 = x) ∨ r.2 = false := by
 unfold zwc
 refine z0a (z1n l.length (fun i _ => (l, (i : Int), x, _)) (fun i (_ : Unit) => ∀ j (hj : j < l.length), j < i → ¬ l[j].1 = x) () rfl (fun j _ h => by omega) (fun _ _ => ?_) fun i _ hi hI => ?_)
 · unfold z6t zj5
   dsimp only
   repeat' first
     | (dsimp only [Int.toNat_natCast, List.length_nil])
     | ((with_reducible refine z0z ?_ ?_) <;> intro _ <;> try (exfalso; omega))
     | with_reducible first | refine z0g ?_ | refine z0f ?_ | refine z0d ?_ | refine z0e ?_ | refine z0b ?_ | refine z0i ?_ | refine qs ?_ | refine qb ?_ | refine z0j ?_ | refine qw ?_ | refine z0m ?_ | refine z0k ?_ | refine qi ?_ | refine qg (h := ?_) | refine qx (h := ?_) | refine qy (h := ?_) | refine qa ?_ | refine qc ?_ | refine ql ?_ | refine qp ?_ | refine z0a ?_ | rfl
     | (with_reducible first | refine ok_lt ?_ ?_ | refine ok_le ?_ ?_ | refine z0h ?_ ?_ | refine z0l ?_ ?_ | refine z0n ?_ ?_ | refine qu ?_ ?_ | refine ok_if ?_ ?_) <;> intro _ <;> try (exfalso; omega)
   exact .inr rfl
 · unfold z6t zj5
   dsimp only
   repeat' first
     | (dsimp only [Int.toNat_natCast, List.length_nil])
     | ((with_reducible refine z0z ?_ ?_) <;> intro _ <;> try (exfalso; omega))
     | with_reducible first | refine z0g ?_ | refine z0f ?_ | refine z0d ?_ | refine z0e ?_ | refine z0b ?_ | refine z0i ?_ | refine qs ?_ | refine qb ?_ | refine z0j ?_ | refine qw ?_ | refine z0m ?_ | refine z0k ?_ | refine qi ?_ | refine qg (h := ?_) | refine qx (h := ?_) | refine qy (h := ?_) | refine qa ?_ | refine qc ?_ | refine ql ?_ | refine qp ?_ | refine z0a ?_ | rfl
     | (with_reducible first | refine ok_lt ?_ ?_ | refine ok_le ?_ ?_ | refine z0h ?_ ?_ | refine z0l ?_ ?_ | refine z0n ?_ ?_ | refine qu ?_ ?_ | refine ok_if ?_ ?_) <;> intro _ <;> try (exfalso; omega)
   · rename_i h1 h2
     refine .inl ⟨rfl, i, hi, rfl, ?_, hI⟩
     exact h2
   · rename_i h1 h2
     refine ⟨(), by rw [z0r (by omega)]; rfl, fun j hj hlt => ?_⟩
     by_cases e : j = i
     · subst e; exact h2
     · exact hI j hj (by omega)
theorem z1nt (n : Int) (hn : n ≤ 1000) : Ok (zo6 n) fun r => r.length = n.toNat := by
 unfold zo6
 refine z0a (z1n n.toNat (fun i _ => (n, List.replicate i (0 : Int), (i : Int))) (fun _ (_ : Unit) => True) () rfl trivial (fun _ _ => ?_) fun i _ hi _ => ?_)
 · unfold z4u zfq
   dsimp only
   repeat' first
     | (dsimp only [Int.toNat_natCast, List.length_nil])
     | ((with_reducible refine z0z ?_ ?_) <;> intro _ <;> try (exfalso; omega))
     | with_reducible first | refine z0g ?_ | refine z0f ?_ | refine z0d ?_ | refine z0e ?_ | refine z0b ?_ | refine z0i ?_ | refine qs ?_ | refine qb ?_ | refine z0j ?_ | refine qw ?_ | refine z0m ?_ | refine z0k ?_ | refine qi ?_ | refine qg (h := ?_) | refine qx (h := ?_) | refine qy (h := ?_) | refine qa ?_ | refine qc ?_ | refine ql ?_ | refine qp ?_ | refine z0a ?_ | rfl
     | (with_reducible first | refine ok_lt ?_ ?_ | refine ok_le ?_ ?_ | refine z0h ?_ ?_ | refine z0l ?_ ?_ | refine z0n ?_ ?_ | refine qu ?_ ?_ | refine ok_if ?_ ?_) <;> intro _ <;> try (exfalso; omega)
   exact List.length_replicate ..
 · unfold z4u zfq
   dsimp only
   repeat' first
     | (dsimp only [Int.toNat_natCast, List.length_nil])
     | ((with_reducible refine z0z ?_ ?_) <;> intro _ <;> try (exfalso; omega))
     | with_reducible first | refine z0g ?_ | refine z0f ?_ | refine z0d ?_ | refine z0e ?_ | refine z0b ?_ | refine z0i ?_ | refine qs ?_ | refine qb ?_ | refine z0j ?_ | refine qw ?_ | refine z0m ?_ | refine z0k ?_ | refine qi ?_ | refine qg (h := ?_) | refine qx (h := ?_) | refine qy (h := ?_) | refine qa ?_ | refine qc ?_ | refine ql ?_ | refine qp ?_ | refine z0a ?_ | rfl
     | (with_reducible first | refine ok_lt ?_ ?_ | refine ok_le ?_ ?_ | refine z0h ?_ ?_ | refine z0l ?_ ?_ | refine z0n ?_ ?_ | refine qu ?_ ?_ | refine ok_if ?_ ?_) <;> intro _ <;> try (exfalso; omega)
   exact ⟨(), by rw [z0r (by omega), List.replicate_succ' (n := i)]; rfl, trivial⟩
theorem z1tr (data : List Int) (n : Int) (hd : data.length ≤ 250) : Ok (z11e data n) fun r => r.1.length ≤ 250 := by
 unfold z11e
 repeat' first
   | (dsimp only [Int.toNat_natCast, List.length_nil])
   | ((with_reducible refine z1e (z1nt _ ?_) ?_))
   | ((with_reducible refine z0z ?_ ?_) <;> intro _ <;> try (exfalso; omega))
   | with_reducible first | refine z0g ?_ | refine z0f ?_ | refine z0d ?_ | refine z0e ?_ | refine z0b ?_ | refine z0i ?_ | refine qs ?_ | refine qb ?_ | refine z0j ?_ | refine qw ?_ | refine z0m ?_ | refine z0k ?_ | refine qi ?_ | refine qg (h := ?_) | refine qx (h := ?_) | refine qy (h := ?_) | refine qa ?_ | refine qc ?_ | refine ql ?_ | refine qp ?_ | refine z0a ?_ | rfl
   | (with_reducible first | refine ok_lt ?_ ?_ | refine ok_le ?_ ?_ | refine z0h ?_ ?_ | refine z0l ?_ ?_ | refine z0n ?_ ?_ | refine qu ?_ ?_ | refine ok_if ?_ ?_) <;> intro _ <;> try (exfalso; omega)
 · exact Nat.zero_le _
 · exact Nat.zero_le _
 · rw [z0r (by omega)]; omega
 · intro r hr
   rw [z0r (by omega)] at hr
   repeat' first
     | (dsimp only [Int.toNat_natCast, List.length_nil])
     | ((with_reducible refine z0z ?_ ?_) <;> intro _ <;> try (exfalso; omega))
     | with_reducible first | refine z0g ?_ | refine z0f ?_ | refine z0d ?_ | refine z0e ?_ | refine z0b ?_ | refine z0i ?_ | refine qs ?_ | refine qb ?_ | refine z0j ?_ | refine qw ?_ | refine z0m ?_ | refine z0k ?_ | refine qi ?_ | refine qg (h := ?_) | refine qx (h := ?_) | refine qy (h := ?_) | refine qa ?_ | refine qc ?_ | refine ql ?_ | refine qp ?_ | refine z0a ?_ | rfl
     | (with_reducible first | refine ok_lt ?_ ?_ | refine ok_le ?_ ?_ | refine z0h ?_ ?_ | refine z0l ?_ ?_ | refine z0n ?_ ?_ | refine qu ?_ ?_ | refine ok_if ?_ ?_) <;> intro _ <;> try (exfalso; omega)
   show (subL _ _ _).length ≤ 250
   unfold subL; simp; omega
theorem z1nf (data : List Int) (off : Int) (t : List Int) (hd : data.length ≤ 250) (ht : t.length ≤ 250) (ho : -9223372036854775808 ≤ off ∧ off ≤ 9223372036854775807) : Ok (ztb data off t) fun r => r.1.length ≤ 250 := by
 unfold ztb
 by_cases h0 : off < 0
 · repeat' first
     | (dsimp only [Int.toNat_natCast, List.length_nil])
     | ((with_reducible refine z0z ?_ ?_) <;> intro _ <;> try (exfalso; omega))
     | with_reducible first | refine z0g ?_ | refine z0f ?_ | refine z0d ?_ | refine z0e ?_ | refine z0b ?_ | refine z0i ?_ | refine qs ?_ | refine qb ?_ | refine z0j ?_ | refine qw ?_ | refine z0m ?_ | refine z0k ?_ | refine qi ?_ | refine qg (h := ?_) | refine qx (h := ?_) | refine qy (h := ?_) | refine qa ?_ | refine qc ?_ | refine ql ?_ | refine qp ?_ | refine z0a ?_ | rfl
     | (with_reducible first | refine ok_lt ?_ ?_ | refine ok_le ?_ ?_ | refine z0h ?_ ?_ | refine z0l ?_ ?_ | refine z0n ?_ ?_ | refine qu ?_ ?_ | refine ok_if ?_ ?_) <;> intro _ <;> try (exfalso; omega)
   exact Nat.zero_le _
 by_cases h1 : 200 < off
 · repeat' first
     | (dsimp only [Int.toNat_natCast, List.length_nil])
     | ((with_reducible refine z0z ?_ ?_) <;> intro _ <;> try (exfalso; omega))
     | with_reducible first | refine z0g ?_ | refine z0f ?_ | refine z0d ?_ | refine z0e ?_ | refine z0b ?_ | refine z0i ?_ | refine qs ?_ | refine qb ?_ | refine z0j ?_ | refine qw ?_ | refine z0m ?_ | refine z0k ?_ | refine qi ?_ | refine qg (h := ?_) | refine qx (h := ?_) | refine qy (h := ?_) | refine qa ?_ | refine qc ?_ | refine ql ?_ | refine qp ?_ | refine z0a ?_ | rfl
     | (with_reducible first | refine ok_lt ?_ ?_ | refine ok_le ?_ ?_ | refine z0h ?_ ?_ | refine z0l ?_ ?_ | refine z0n ?_ ?_ | refine qu ?_ ?_ | refine ok_if ?_ ?_) <;> intro _ <;> try (exfalso; omega)
   exact Nat.zero_le _
 rw [z0r (n := off + (t.length : Nat)) (by omega), z0r (n := off + (t.length : Nat) - (data.length : Nat)) (by omega)]
 repeat' first
   | (dsimp only [Int.toNat_natCast, List.length_nil])
   | ((with_reducible refine z1e (z1nt _ (by omega)) ?_))
   | ((with_reducible refine z0z ?_ ?_) <;> intro _ <;> try (exfalso; omega))
   | with_reducible first | refine z0g ?_ | refine z0f ?_ | refine z0d ?_ | refine z0e ?_ | refine z0b ?_ | refine z0i ?_ | refine qs ?_ | refine qb ?_ | refine z0j ?_ | refine qw ?_ | refine z0m ?_ | refine z0k ?_ | refine qi ?_ | refine qg (h := ?_) | refine qx (h := ?_) | refine qy (h := ?_) | refine qa ?_ | refine qc ?_ | refine ql ?_ | refine qp ?_ | refine z0a ?_ | rfl
   | (with_reducible first | refine ok_lt ?_ ?_ | refine ok_le ?_ ?_ | refine z0h ?_ ?_ | refine z0l ?_ ?_ | refine z0n ?_ ?_ | refine qu ?_ ?_ | refine ok_if ?_ ?_) <;> intro _ <;> try (exfalso; omega)
 · exact Nat.zero_le _
 · exact Nat.zero_le _
 · intro r hr
   have e1 : (subL (data ++ r) 0 off).length = off.toNat := by unfold subL; simp; omega
   have e2 : (subL (data ++ r) (off + (t.length : Nat)) (((data ++ r).length : Nat) : Int)).length ≤ 250 := by unfold subL; simp; omega
   simp only [List.length_append] at e2
   repeat' first
     | (dsimp only [Int.toNat_natCast, List.length_nil])
     | ((with_reducible refine z0z ?_ ?_) <;> intro _ <;> try (exfalso; omega))
     | with_reducible first | refine z0g ?_ | refine z0f ?_ | refine z0d ?_ | refine z0e ?_ | refine z0b ?_ | refine z0i ?_ | refine qs ?_ | refine qb ?_ | refine z0j ?_ | refine qw ?_ | refine z0m ?_ | refine z0k ?_ | refine qi ?_ | refine qg (h := ?_) | refine qx (h := ?_) | refine qy (h := ?_) | refine qa ?_ | refine qc ?_ | refine ql ?_ | refine qp ?_ | refine z0a ?_ | rfl
     | (with_reducible first | refine ok_lt ?_ ?_ | refine ok_le ?_ ?_ | refine z0h ?_ ?_ | refine z0l ?_ ?_ | refine z0n ?_ ?_ | refine qu ?_ ?_ | refine ok_if ?_ ?_) <;> intro _ <;> try (exfalso; omega)
   · rw [List.length_append, List.length_append, e1]
     have : (subL (data ++ r) (off + (t.length : Nat)) (((data ++ r).length : Nat) : Int)).length = (data ++ r).length - (off + (t.length : Nat)).toNat := by unfold subL; simp; omega
     rw [this, List.length_append]; omega
theorem z1qw : MonoR zjj := by
 intro r r' h x y hy
 unfold zjj zom at *
 rw [Option.bind_eq_some_iff] at hy ⊢
 obtain ⟨f, h1, h2⟩ := hy
 refine ⟨f, h1, ?_⟩
 cases hf : f.2 with
 | false => rw [hf] at h2; exact h2
 | true =>
   rw [hf] at h2
   simp only [Bool.not_true, cond_false] at h2 ⊢
   cases hk : eqI f.1.2.2.1 5 with
   | true => rw [hk] at h2; exact h2
   | false =>
     rw [hk] at h2
     simp only [cond_false] at h2 ⊢
     rw [Option.bind_eq_some_iff] at h2 ⊢
     obtain ⟨j, h3, h4⟩ := h2
     refine ⟨j, ?_, h4⟩
     unfold z0u at h3 ⊢
     cases hb : Nat.ble f.1.2.2.2.2.2.2.2.1.length 9223372036854775807 with
     | false => rw [hb] at h3; cases h3
     | true =>
       rw [hb] at h3
       simp only [cond_true] at h3 ⊢
       cases hl : ltI 0 ((f.1.2.2.2.2.2.2.2.1.length : Nat) : Int) with
       | false => rw [hl] at h3; exact h3
       | true =>
         rw [hl] at h3
         simp only [cond_true] at h3 ⊢
         rw [Option.bind_eq_some_iff] at h3 ⊢
         obtain ⟨b, h5, h6⟩ := h3
         refine ⟨b, h5, ?_⟩
         rw [Option.bind_eq_some_iff] at h6 ⊢
         obtain ⟨d, h7, h8⟩ := h6
         exact ⟨d, h _ _ h7, h8⟩
theorem z1md {l : List T1} (hl : l.length ≤ 1000) (hin : ∀ e, e ∈ l → EvIn e) (hc : Chain l) : ∀ (k : Nat) (x : T0), (∀ i (h : i < l.length), l[i].1 = x → (∀ j (hj : j < l.length), j < i → ¬ l[j].1 = x) → i < k) → Ok (iterR zjj (k + 1) (l, x)) fun d => d.length ≤ 250
 | k, x, hk => by
   show Ok (zom (iterR zjj k) l x) _
   unfold zom
   refine z1e (z1w5 l x hl) fun f hf => ?_
   rcases hf with ⟨f1, i, hi, f2, f3, f4⟩ | f1
   · rw [f1]
     have he := hin _ (List.getElem_mem hi)
     have hik := hk i hi f3 f4
     have hb10 := he.base
     simp only [zi8] at hb10
     rw [← f2] at he hb10
     obtain ⟨e, b⟩ := f
     simp only at f1 f2 he hb10 ⊢
     repeat' first
       | (dsimp only [Int.toNat_natCast, List.length_nil])
       | ((with_reducible refine z0z ?_ ?_) <;> intro _ <;> try (exfalso; omega))
       | with_reducible first | refine z0g ?_ | refine z0f ?_ | refine z0d ?_ | refine z0e ?_ | refine z0b ?_ | refine z0i ?_ | refine qs ?_ | refine qb ?_ | refine z0j ?_ | refine qw ?_ | refine z0m ?_ | refine z0k ?_ | refine qi ?_ | refine qg (h := ?_) | refine qx (h := ?_) | refine qy (h := ?_) | refine qa ?_ | refine qc ?_ | refine ql ?_ | refine qp ?_ | refine z0a ?_ | rfl
       | (with_reducible first | refine ok_lt ?_ ?_ | refine ok_le ?_ ?_ | refine z0h ?_ ?_ | refine z0l ?_ ?_ | refine z0n ?_ ?_ | refine qu ?_ ?_ | refine ok_if ?_ ?_) <;> intro _ <;> try (exfalso; omega)
     · exact he.data
     · rename_i h5 h6
       have hb0 : 0 < (zi8 e).length := by simp only [zi8]; omega
       refine z8j (R := fun d : List Int => d.length ≤ 250) ?_ fun d hd => ?_
       · obtain ⟨j, hj, hji, ej⟩ := hc i hi (zi8 e)[0] (by rw [← f2, getE hb0])
         obtain ⟨k', rfl⟩ : ∃ k', k = k' + 1 := ⟨k - 1, by omega⟩
         refine z1md hl hin hc k' _ fun i' h' e1 e2 => ?_
         have : i' ≤ j := by
           apply Classical.byContradiction
           intro hlt
           exact e2 j hj (by omega) ej
         omega
       · repeat' first
           | (dsimp only [Int.toNat_natCast, List.length_nil])
           | ((with_reducible refine z0z ?_ ?_) <;> intro _ <;> try (exfalso; omega))
           | with_reducible first | refine z0g ?_ | refine z0f ?_ | refine z0d ?_ | refine z0e ?_ | refine z0b ?_ | refine z0i ?_ | refine qs ?_ | refine qb ?_ | refine z0j ?_ | refine qw ?_ | refine z0m ?_ | refine z0k ?_ | refine qi ?_ | refine qg (h := ?_) | refine qx (h := ?_) | refine qy (h := ?_) | refine qa ?_ | refine qc ?_ | refine ql ?_ | refine qp ?_ | refine z0a ?_ | rfl
           | (with_reducible first | refine ok_lt ?_ ?_ | refine ok_le ?_ ?_ | refine z0h ?_ ?_ | refine z0l ?_ ?_ | refine z0n ?_ ?_ | refine qu ?_ ?_ | refine ok_if ?_ ?_) <;> intro _ <;> try (exfalso; omega)
         · refine z8j (z1tr _ _ hd) fun _ h => ?_
           exact z0d h
         · refine z8j (z1nf _ _ _ hd he.data he.off) fun _ h => ?_
           exact z0d h
     · refine z8j (z1tr _ _ (Nat.zero_le _)) fun _ h => ?_
       exact z0d h
     · refine z8j (z1nf _ _ _ (Nat.zero_le _) he.data he.off) fun _ h => ?_
       exact z0d h
   · rw [f1]
     repeat' first
       | (dsimp only [Int.toNat_natCast, List.length_nil])
       | ((with_reducible refine z0z ?_ ?_) <;> intro _ <;> try (exfalso; omega))
       | with_reducible first | refine z0g ?_ | refine z0f ?_ | refine z0d ?_ | refine z0e ?_ | refine z0b ?_ | refine z0i ?_ | refine qs ?_ | refine qb ?_ | refine z0j ?_ | refine qw ?_ | refine z0m ?_ | refine z0k ?_ | refine qi ?_ | refine qg (h := ?_) | refine qx (h := ?_) | refine qy (h := ?_) | refine qa ?_ | refine qc ?_ | refine ql ?_ | refine qp ?_ | refine z0a ?_ | rfl
       | (with_reducible first | refine ok_lt ?_ ?_ | refine ok_le ?_ ?_ | refine z0h ?_ ?_ | refine z0l ?_ ?_ | refine z0n ?_ ?_ | refine qu ?_ ?_ | refine ok_if ?_ ?_) <;> intro _ <;> try (exfalso; omega)
     exact Nat.zero_le _
theorem z1g8 {l : List T1} (hl : l.length ≤ 1000) (hin : ∀ e, e ∈ l → EvIn e) (hc : Chain l) (x : T0) : Ok (z11k l x) fun d => d.length ≤ 250 :=
 z1wu z1qw (z1md hl hin hc l.length x fun i h _ _ => h)
end Go.Proofs.Ytfbdjicfkcklfaa
set_option maxRecDepth 100000
set_option linter.unusedSimpArgs false
set_option linter.unusedVariables false
namespace Go.Proofs.Ytfbdjicfkcklfaa
open Go.Tm Go.Ab
def z7y (l : List T1) : List Int := l.foldl (fun v e => withV v e.1) zeroV
theorem z1h2 (l : List T1) (e : T1) : z7y (l ++ [e]) = withV (z7y l) e.1 := by simp [z7y]
theorem z1f5 : ∀ (l : List T1) (v : List Int), VecOk v → natV v → VecOk (l.foldl (fun v e => withV v e.1) v) ∧ natV (l.foldl (fun v e => withV v e.1) v) ∧ leV v (l.foldl (fun v e => withV v e.1) v)
 | [], v, h, g => ⟨h, g, z1vo v⟩
 | e :: l, v, h, g => by
   obtain ⟨h1, h2, h3⟩ := z1f5 l (withV v e.1) (zj7 h _) (zpu h (zes _) g)
   exact ⟨h1, h2, zzs (zwe h (zes _)) h3⟩
theorem z1ek : ∀ (l : List T1) (v : List Int), VecOk v → natV v → ∀ e, e ∈ l → 1 ≤ e.1.1 ∧ e.1.1 ≤ 8 → zqu (l.foldl (fun v e => withV v e.1) v) e.1
 | a :: l, v, h, g, e, he, hr => by
   have hw := zj7 h a.1
   have hn := zpu h (zes a.1) g
   rcases List.mem_cons.1 he with rfl | he
   · exact z1e4 (z1f5 l _ hw hn).2.2 (z1dq h hr)
   · exact z1ek l _ hw hn e he hr
theorem zdd (l : List T1) : VecOk (z7y l) ∧ natV (z7y l) := by
 obtain ⟨h1, h2, _⟩ := z1f5 l zeroV zsg z10q
 exact ⟨h1, h2⟩
theorem z1n7 (l : List T1) (hl : l.length ≤ 1000) : zo5 l = some (z7y l) := by
 refine ok_is ?_
 unfold zo5
 refine z0a (z1n l.length (fun i _ => (l, (i : Int), List.replicate 8 (0 : Int), z7y (l.take i))) (fun _ (_ : Unit) => True) () rfl trivial (fun _ _ => ?_) fun i _ hi _ => ?_)
 · unfold z4q zfl
   dsimp only
   repeat' first
     | (dsimp only [Int.toNat_natCast, List.length_nil])
     | ((with_reducible refine z0z ?_ ?_) <;> intro _ <;> try (exfalso; omega))
     | with_reducible first | refine z0g ?_ | refine z0f ?_ | refine z0d ?_ | refine z0e ?_ | refine z0b ?_ | refine z0i ?_ | refine qs ?_ | refine qb ?_ | refine z0j ?_ | refine qw ?_ | refine z0m ?_ | refine z0k ?_ | refine qi ?_ | refine qg (h := ?_) | refine qx (h := ?_) | refine qy (h := ?_) | refine qa ?_ | refine qc ?_ | refine ql ?_ | refine qp ?_ | refine z0a ?_ | rfl
     | (with_reducible first | refine ok_lt ?_ ?_ | refine ok_le ?_ ?_ | refine z0h ?_ ?_ | refine z0l ?_ ?_ | refine z0n ?_ ?_ | refine qu ?_ ?_ | refine ok_if ?_ ?_) <;> intro _ <;> try (exfalso; omega)
   rw [List.take_length]
 · unfold z4q zfl
   dsimp only
   repeat' first
     | (dsimp only [Int.toNat_natCast, List.length_nil])
     | ((with_reducible refine ok_eq (zk4 (zdd _).1 _) ?_))
     | ((with_reducible refine z0z ?_ ?_) <;> intro _ <;> try (exfalso; omega))
     | with_reducible first | refine z0g ?_ | refine z0f ?_ | refine z0d ?_ | refine z0e ?_ | refine z0b ?_ | refine z0i ?_ | refine qs ?_ | refine qb ?_ | refine z0j ?_ | refine qw ?_ | refine z0m ?_ | refine z0k ?_ | refine qi ?_ | refine qg (h := ?_) | refine qx (h := ?_) | refine qy (h := ?_) | refine qa ?_ | refine qc ?_ | refine ql ?_ | refine qp ?_ | refine z0a ?_ | rfl
     | (with_reducible first | refine ok_lt ?_ ?_ | refine ok_le ?_ ?_ | refine z0h ?_ ?_ | refine z0l ?_ ?_ | refine z0n ?_ ?_ | refine qu ?_ ?_ | refine ok_if ?_ ?_) <;> intro _ <;> try (exfalso; omega)
   exact ⟨(), by rw [z0r (by omega), List.take_succ_eq_append_getElem hi, z1h2]; rfl, trivial⟩
structure Evs (l : List T1) (K : List Int) : Prop where
 len : l.length ≤ 1000
 ev : ∀ e, e ∈ l → EvIn e
 chain : Chain l
 rep : ∀ e, e ∈ l → 1 ≤ e.1.1 ∧ e.1.1 ≤ 8
 vec : VecOk K
 nat : natV K
 means : ∀ e, e ∈ l → zqu K e.1
 dep : ∀ e, e ∈ l → leV e.2.1 K
structure ByOk (K b : List Int) : Prop where
 v : VecOk b
 n : natV b
 le : leV b K
theorem ByOk.zero {l : List T1} {K : List Int} (h : Evs l K) : ByOk K (List.replicate 8 (0 : Int)) := ⟨zsg, z10q, fun i hi => by have := z1fv i; unfold zeroV at this; rw [this]; exact h.nat i hi⟩
theorem ByOk.join {K a b : List Int} (h : ByOk K a) (g : ByOk K b) : ByOk K (joinV a b) := ⟨zxf h.v g.v, zpu h.v g.v h.n, z1m6 h.v g.v h.le g.le⟩
theorem ByOk.with {l : List T1} {K a : List Int} (h : Evs l K) (g : ByOk K a) {e : T1} (he : e ∈ l) : ByOk K (withV a e.1) := ⟨zj7 g.v _, zpu g.v (zes _) g.n, z1f3 g.v g.le h.nat (h.means e he)⟩
structure EntOk (l : List T1) (K : List Int) (x : T2) : Prop where
 by' : ByOk K x.2.2.2.2
 ev : ∃ e, e ∈ l ∧ (zg9 e = 1 ∨ zg9 e = 2 ∨ zg9 e = 7) ∧ x.1 = e.1 ∧ x.2.1 = e.2.2.2.2.1 ∧ x.2.2.1 = e.2.2.2.2.2.1 ∧ x.2.2.2.1 = if zg9 e = 7 then e.2.2.2.1 else e.1
theorem z1rt {P : T2 → Prop} (hv : ∀ y, P y → VecOk y.2.2.2.2) (hj : ∀ y z, P y → P z → P (y.1, y.2.1, y.2.2.1, y.2.2.2.1, joinV y.2.2.2.2 z.2.2.2.2)) (l : List T2) (x : T2) (hl : l.length ≤ 2000) (hp : ∀ y, y ∈ l → P y) (hx : P x) :
   Ok (zg6 l x) fun r => r.length ≤ l.length + 1 ∧ ∀ y, y ∈ r → P y := by
 unfold zg6
 repeat' first
   | (dsimp only [Int.toNat_natCast, List.length_nil])
   | ((with_reducible refine z0z ?_ ?_) <;> intro _ <;> try (exfalso; omega))
   | with_reducible first | refine z0g ?_ | refine z0f ?_ | refine z0d ?_ | refine z0e ?_ | refine z0b ?_ | refine z0i ?_ | refine qs ?_ | refine qb ?_ | refine z0j ?_ | refine qw ?_ | refine z0m ?_ | refine z0k ?_ | refine qi ?_ | refine qg (h := ?_) | refine qx (h := ?_) | refine qy (h := ?_) | refine qa ?_ | refine qc ?_ | refine ql ?_ | refine qp ?_ | refine z0a ?_ | rfl
   | (with_reducible first | refine ok_lt ?_ ?_ | refine ok_le ?_ ?_ | refine z0h ?_ ?_ | refine z0l ?_ ?_ | refine z0n ?_ ?_ | refine qu ?_ ?_ | refine ok_if ?_ ?_) <;> intro _ <;> try (exfalso; omega)
 refine z1n l.length (fun i (a : Bool × List T2) => (l, a.1, (i : Int), x, a.2)) (fun i a => a.2.length ≤ i + (if a.1 = true then 1 else 0) ∧ ∀ y, y ∈ a.2 → P y) (false, []) rfl ⟨Nat.zero_le _, fun y hy => by cases hy⟩ (fun a ha => ?_) fun i a hi ha => ?_
 · obtain ⟨put, out⟩ := a
   obtain ⟨h1, h2⟩ := ha
   unfold z3m zca
   dsimp only
   simp only at h1 h2
   have hb : out.length ≤ l.length + 1 := by split at h1 <;> omega
   cases put with
   | true =>
     repeat' first
       | (dsimp only [Int.toNat_natCast, List.length_nil])
       | ((with_reducible refine z0z ?_ ?_) <;> intro _ <;> try (exfalso; omega))
       | with_reducible first | refine z0g ?_ | refine z0f ?_ | refine z0d ?_ | refine z0e ?_ | refine z0b ?_ | refine z0i ?_ | refine qs ?_ | refine qb ?_ | refine z0j ?_ | refine qw ?_ | refine z0m ?_ | refine z0k ?_ | refine qi ?_ | refine qg (h := ?_) | refine qx (h := ?_) | refine qy (h := ?_) | refine qa ?_ | refine qc ?_ | refine ql ?_ | refine qp ?_ | refine z0a ?_ | rfl
       | (with_reducible first | refine ok_lt ?_ ?_ | refine ok_le ?_ ?_ | refine z0h ?_ ?_ | refine z0l ?_ ?_ | refine z0n ?_ ?_ | refine qu ?_ ?_ | refine ok_if ?_ ?_) <;> intro _ <;> try (exfalso; omega)
     exact ⟨hb, h2⟩
   | false =>
     simp only [Bool.false_eq_true, if_false] at h1
     repeat' first
       | (dsimp only [Int.toNat_natCast, List.length_nil])
       | ((with_reducible refine z0z ?_ ?_) <;> intro _ <;> try (exfalso; omega))
       | with_reducible first | refine z0g ?_ | refine z0f ?_ | refine z0d ?_ | refine z0e ?_ | refine z0b ?_ | refine z0i ?_ | refine qs ?_ | refine qb ?_ | refine z0j ?_ | refine qw ?_ | refine z0m ?_ | refine z0k ?_ | refine qi ?_ | refine qg (h := ?_) | refine qx (h := ?_) | refine qy (h := ?_) | refine qa ?_ | refine qc ?_ | refine ql ?_ | refine qp ?_ | refine z0a ?_ | rfl
       | (with_reducible first | refine ok_lt ?_ ?_ | refine ok_le ?_ ?_ | refine z0h ?_ ?_ | refine z0l ?_ ?_ | refine z0n ?_ ?_ | refine qu ?_ ?_ | refine ok_if ?_ ?_) <;> intro _ <;> try (exfalso; omega)
     refine ⟨by simp; omega, fun y hy => ?_⟩
     rcases List.mem_append.1 hy with hy | hy
     · exact h2 y hy
     · simp only [List.mem_singleton] at hy; subst hy; exact hx
 · obtain ⟨put, out⟩ := a
   obtain ⟨h1, h2⟩ := ha
   unfold z3m zca
   dsimp only
   simp only at h1 h2
   have hb : out.length ≤ i + 1 := by split at h1 <;> omega
   have hpi := hp _ (List.getElem_mem hi)
   have add : ∀ (o : List T2) (z : T2), (∀ y, y ∈ o → P y) → P z → ∀ y, y ∈ o ++ [z] → P y := fun o z ho hz y hy => by
     rcases List.mem_append.1 hy with hy | hy
     · exact ho y hy
     · simp only [List.mem_singleton] at hy; subst hy; exact hz
   repeat' first
     | (dsimp only [Int.toNat_natCast, List.length_nil])
     | ((with_reducible refine ok_eq (z15c (hv _ hpi) (hv _ hx)) ?_))
     | ((with_reducible refine ok_eq (zt2 _ _) ?_))
     | ((with_reducible refine z0z ?_ ?_) <;> intro _ <;> try (exfalso; omega))
     | with_reducible first | refine z0g ?_ | refine z0f ?_ | refine z0d ?_ | refine z0e ?_ | refine z0b ?_ | refine z0i ?_ | refine qs ?_ | refine qb ?_ | refine z0j ?_ | refine qw ?_ | refine z0m ?_ | refine z0k ?_ | refine qi ?_ | refine qg (h := ?_) | refine qx (h := ?_) | refine qy (h := ?_) | refine qa ?_ | refine qc ?_ | refine ql ?_ | refine qp ?_ | refine z0a ?_ | rfl
     | (with_reducible first | refine ok_lt ?_ ?_ | refine ok_le ?_ ?_ | refine z0h ?_ ?_ | refine z0l ?_ ?_ | refine z0n ?_ ?_ | refine qu ?_ ?_ | refine ok_if ?_ ?_) <;> intro _ <;> try (exfalso; omega)
   · refine ⟨(true, _), by rw [z0r (by omega)]; rfl, ?_, add _ _ h2 (hj _ _ hpi hx)⟩
     simp only [if_true, List.length_append, List.length_singleton]; split at h1 <;> omega
   · rename_i e1
     subst e1
     simp only [if_true] at h1
     refine ⟨(true, _), by rw [z0r (by omega)]; rfl, ?_, add _ _ h2 hpi⟩
     simp only [if_true, List.length_append, List.length_singleton]; omega
   · rename_i e1 _
     subst e1
     simp only [Bool.false_eq_true, if_false] at h1
     refine ⟨(true, _), by rw [z0r (by omega)]; rfl, ?_, add _ _ (add _ _ h2 hx) hpi⟩
     simp only [if_true, List.length_append, List.length_singleton]; omega
   · rename_i e1 _
     subst e1
     simp only [Bool.false_eq_true, if_false] at h1
     refine ⟨(false, _), by rw [z0r (by omega)]; rfl, ?_, add _ _ h2 hpi⟩
     simp only [Bool.false_eq_true, if_false, List.length_append, List.length_singleton]; omega
theorem z1wn {l : List T1} {K : List Int} (E : Evs l K) (out : List T2) (n : Int) (x : T2) (hx : ByOk K x.2.2.2.2) :
   Ok (loopC z0v (l, out, n, 0, x)) fun r => ∃ b, ByOk K b ∧ r = (l, out, n, (x.1, x.2.1, x.2.2.1, x.2.2.2.1, b)) := by
 have hl := E.len
 refine z1n l.length (fun k (b : List Int) => (l, out, n, (k : Int), (x.1, x.2.1, x.2.2.1, x.2.2.2.1, b))) (fun _ b => ByOk K b) x.2.2.2.2 rfl hx (fun b hb => ?_) fun k b hk hb => ?_
 · unfold z0v z1y
   dsimp only
   repeat' first
     | (dsimp only [Int.toNat_natCast, List.length_nil])
     | ((with_reducible refine z0z ?_ ?_) <;> intro _ <;> try (exfalso; omega))
     | with_reducible first | refine z0g ?_ | refine z0f ?_ | refine z0d ?_ | refine z0e ?_ | refine z0b ?_ | refine z0i ?_ | refine qs ?_ | refine qb ?_ | refine z0j ?_ | refine qw ?_ | refine z0m ?_ | refine z0k ?_ | refine qi ?_ | refine qg (h := ?_) | refine qx (h := ?_) | refine qy (h := ?_) | refine qa ?_ | refine qc ?_ | refine ql ?_ | refine qp ?_ | refine z0a ?_ | rfl
     | (with_reducible first | refine ok_lt ?_ ?_ | refine ok_le ?_ ?_ | refine z0h ?_ ?_ | refine z0l ?_ ?_ | refine z0n ?_ ?_ | refine qu ?_ ?_ | refine ok_if ?_ ?_) <;> intro _ <;> try (exfalso; omega)
   exact ⟨b, hb, rfl⟩
 · unfold z0v z1y
   dsimp only
   have go := (E.ev _ (List.getElem_mem hk)).gone
   have hw := ByOk.with E hb (List.getElem_mem hk)
   obtain ⟨e1, e2⟩ := in_is (z1bl l[k]) x.1 (by omega)
   repeat' first
     | (dsimp only [Int.toNat_natCast, List.length_nil])
     | ((with_reducible refine ok_eq e2 ?_))
     | ((with_reducible refine ok_eq (zk4 hb.v _) ?_))
     | ((with_reducible refine z0z ?_ ?_) <;> intro _ <;> try (exfalso; omega))
     | with_reducible first | refine z0g ?_ | refine z0f ?_ | refine z0d ?_ | refine z0e ?_ | refine z0b ?_ | refine z0i ?_ | refine qs ?_ | refine qb ?_ | refine z0j ?_ | refine qw ?_ | refine z0m ?_ | refine z0k ?_ | refine qi ?_ | refine qg (h := ?_) | refine qx (h := ?_) | refine qy (h := ?_) | refine qa ?_ | refine qc ?_ | refine ql ?_ | refine qp ?_ | refine z0a ?_ | rfl
     | (with_reducible first | refine ok_lt ?_ ?_ | refine ok_le ?_ ?_ | refine z0h ?_ ?_ | refine z0l ?_ ?_ | refine z0n ?_ ?_ | refine qu ?_ ?_ | refine ok_if ?_ ?_) <;> intro _ <;> try (exfalso; omega)
   all_goals first
     | exact ⟨withV b l[k].1, by rw [z0r (by omega)]; rfl, hw⟩
     | exact ⟨b, by rw [z0r (by omega)]; rfl, hb⟩
theorem z1ib {l : List T1} {K : List Int} (E : Evs l K) : Ok (zdx l) fun r => r.length ≤ l.length ∧ (∀ x, x ∈ r → EntOk l K x) := by
 have hl := E.len
 unfold zdx
 refine z0a (z1n l.length (fun i (a : List T2) => (l, a, (i : Int))) (fun i a => a.length ≤ i ∧ ∀ x, x ∈ a → EntOk l K x) [] rfl ⟨Nat.zero_le _, fun x hx => by cases hx⟩ (fun a ha => ?_) fun i a hi ha => ?_)
 · unfold z2r z7x
   dsimp only
   repeat' first
     | (dsimp only [Int.toNat_natCast, List.length_nil])
     | ((with_reducible refine z0z ?_ ?_) <;> intro _ <;> try (exfalso; omega))
     | with_reducible first | refine z0g ?_ | refine z0f ?_ | refine z0d ?_ | refine z0e ?_ | refine z0b ?_ | refine z0i ?_ | refine qs ?_ | refine qb ?_ | refine z0j ?_ | refine qw ?_ | refine z0m ?_ | refine z0k ?_ | refine qi ?_ | refine qg (h := ?_) | refine qx (h := ?_) | refine qy (h := ?_) | refine qa ?_ | refine qc ?_ | refine ql ?_ | refine qp ?_ | refine z0a ?_ | rfl
     | (with_reducible first | refine ok_lt ?_ ?_ | refine ok_le ?_ ?_ | refine z0h ?_ ?_ | refine z0l ?_ ?_ | refine z0n ?_ ?_ | refine qu ?_ ?_ | refine ok_if ?_ ?_) <;> intro _ <;> try (exfalso; omega)
   exact ha
 · unfold z2r z7x
   dsimp only
   have hm := List.getElem_mem hi
   have pok : ∀ x, EntOk l K x → Ok (zg6 a x) fun r => r.length ≤ i + 1 ∧ ∀ y, y ∈ r → EntOk l K y := fun x hx =>
     z8j (z1rt (fun y hy => hy.by'.v) (fun y z hy hz => ⟨hy.by'.join hz.by', hy.ev⟩) a x (by omega) ha.2 hx) fun r hr => ⟨by omega, hr.2⟩
   repeat' first
     | (dsimp only [Int.toNat_natCast, List.length_nil])
     | ((with_reducible refine z1e (z1wn E _ _ _ (ByOk.zero E)) ?_); rintro _ ⟨b, hb, rfl⟩)
     | ((with_reducible refine z1e (pok _ ⟨hb, _, hm, ?_⟩) ?_))
     | ((with_reducible refine z0z ?_ ?_) <;> intro _ <;> try (exfalso; omega))
     | with_reducible first | refine z0g ?_ | refine z0f ?_ | refine z0d ?_ | refine z0e ?_ | refine z0b ?_ | refine z0i ?_ | refine qs ?_ | refine qb ?_ | refine z0j ?_ | refine qw ?_ | refine z0m ?_ | refine z0k ?_ | refine qi ?_ | refine qg (h := ?_) | refine qx (h := ?_) | refine qy (h := ?_) | refine qa ?_ | refine qc ?_ | refine ql ?_ | refine qp ?_ | refine z0a ?_ | rfl
     | (with_reducible first | refine ok_lt ?_ ?_ | refine ok_le ?_ ?_ | refine z0h ?_ ?_ | refine z0l ?_ ?_ | refine z0n ?_ ?_ | refine qu ?_ ?_ | refine ok_if ?_ ?_) <;> intro _ <;> try (exfalso; omega)
   all_goals first
     | exact ⟨a, by rw [z0r (by omega)]; rfl, by omega, ha.2⟩
     | (rintro r ⟨g1, g2⟩
        repeat' first
          | (dsimp only [Int.toNat_natCast, List.length_nil])
          | ((with_reducible refine z0z ?_ ?_) <;> intro _ <;> try (exfalso; omega))
          | with_reducible first | refine z0g ?_ | refine z0f ?_ | refine z0d ?_ | refine z0e ?_ | refine z0b ?_ | refine z0i ?_ | refine qs ?_ | refine qb ?_ | refine z0j ?_ | refine qw ?_ | refine z0m ?_ | refine z0k ?_ | refine qi ?_ | refine qg (h := ?_) | refine qx (h := ?_) | refine qy (h := ?_) | refine qa ?_ | refine qc ?_ | refine ql ?_ | refine qp ?_ | refine z0a ?_ | rfl
          | (with_reducible first | refine ok_lt ?_ ?_ | refine ok_le ?_ ?_ | refine z0h ?_ ?_ | refine z0l ?_ ?_ | refine z0n ?_ ?_ | refine qu ?_ ?_ | refine ok_if ?_ ?_) <;> intro _ <;> try (exfalso; omega)
        exact ⟨r, by rw [z0r (by omega)]; rfl, g1, g2⟩)
     | (rename_i h1 h2
        exact ⟨.inl h1, rfl, rfl, rfl, by rw [if_neg h2]⟩)
     | (rename_i h1 h2
        exact ⟨.inr (.inl h1), rfl, rfl, rfl, by rw [if_neg h2]⟩)
     | (rename_i h1 h2
        exact ⟨.inr (.inr h1), rfl, rfl, rfl, by rw [if_pos h2]⟩)
theorem z1ut {l : List T1} {K : List Int} (E : Evs l K) (out : List T2) (n : Int) (x : T2) (hx : ByOk K x.2.2.2.2) :
   Ok (loopC z1c (out, n, 0, l, x)) fun r => ∃ b, ByOk K b ∧ r = (out, n, l, (x.1, x.2.1, x.2.2.1, x.2.2.2.1, b)) := by
 have hl := E.len
 refine z1n l.length (fun k (b : List Int) => (out, n, (k : Int), l, (x.1, x.2.1, x.2.2.1, x.2.2.2.1, b))) (fun _ b => ByOk K b) x.2.2.2.2 rfl hx (fun b hb => ?_) fun k b hk hb => ?_
 · unfold z1c z4f
   dsimp only
   repeat' first
     | (dsimp only [Int.toNat_natCast, List.length_nil])
     | ((with_reducible refine z0z ?_ ?_) <;> intro _ <;> try (exfalso; omega))
     | with_reducible first | refine z0g ?_ | refine z0f ?_ | refine z0d ?_ | refine z0e ?_ | refine z0b ?_ | refine z0i ?_ | refine qs ?_ | refine qb ?_ | refine z0j ?_ | refine qw ?_ | refine z0m ?_ | refine z0k ?_ | refine qi ?_ | refine qg (h := ?_) | refine qx (h := ?_) | refine qy (h := ?_) | refine qa ?_ | refine qc ?_ | refine ql ?_ | refine qp ?_ | refine z0a ?_ | rfl
     | (with_reducible first | refine ok_lt ?_ ?_ | refine ok_le ?_ ?_ | refine z0h ?_ ?_ | refine z0l ?_ ?_ | refine z0n ?_ ?_ | refine qu ?_ ?_ | refine ok_if ?_ ?_) <;> intro _ <;> try (exfalso; omega)
   exact ⟨b, hb, rfl⟩
 · unfold z1c z4f
   dsimp only
   have go := (E.ev _ (List.getElem_mem hk)).gone
   have hw := ByOk.with E hb (List.getElem_mem hk)
   obtain ⟨e1, e2⟩ := in_is (z1bl l[k]) x.1 (by omega)
   repeat' first
     | (dsimp only [Int.toNat_natCast, List.length_nil])
     | ((with_reducible refine ok_eq e2 ?_))
     | ((with_reducible refine ok_eq (zk4 hb.v _) ?_))
     | ((with_reducible refine z0z ?_ ?_) <;> intro _ <;> try (exfalso; omega))
     | with_reducible first | refine z0g ?_ | refine z0f ?_ | refine z0d ?_ | refine z0e ?_ | refine z0b ?_ | refine z0i ?_ | refine qs ?_ | refine qb ?_ | refine z0j ?_ | refine qw ?_ | refine z0m ?_ | refine z0k ?_ | refine qi ?_ | refine qg (h := ?_) | refine qx (h := ?_) | refine qy (h := ?_) | refine qa ?_ | refine qc ?_ | refine ql ?_ | refine qp ?_ | refine z0a ?_ | rfl
     | (with_reducible first | refine ok_lt ?_ ?_ | refine ok_le ?_ ?_ | refine z0h ?_ ?_ | refine z0l ?_ ?_ | refine z0n ?_ ?_ | refine qu ?_ ?_ | refine ok_if ?_ ?_) <;> intro _ <;> try (exfalso; omega)
   all_goals first
     | exact ⟨withV b l[k].1, by rw [z0r (by omega)]; rfl, hw⟩
     | exact ⟨b, by rw [z0r (by omega)]; rfl, hb⟩
theorem z1p9 {l : List T1} {K : List Int} (E : Evs l K) : Ok (zko l) fun r => r.1.length ≤ l.length ∧ (∀ x, x ∈ r.1 → EntOk l K x) ∧ r.2 = l := by
 have hl := E.len
 unfold zko
 refine zbe rfl ?_
 refine z0a (z1n l.length (fun i (a : List T2) => (a, (i : Int), l)) (fun i a => a.length ≤ i ∧ ∀ x, x ∈ a → EntOk l K x) [] rfl ⟨Nat.zero_le _, fun x hx => by cases hx⟩ (fun a ha => ?_) fun i a hi ha => ?_)
 · unfold z3b zdf
   dsimp only
   repeat' first
     | (dsimp only [Int.toNat_natCast, List.length_nil])
     | ((with_reducible refine z0z ?_ ?_) <;> intro _ <;> try (exfalso; omega))
     | with_reducible first | refine z0g ?_ | refine z0f ?_ | refine z0d ?_ | refine z0e ?_ | refine z0b ?_ | refine z0i ?_ | refine qs ?_ | refine qb ?_ | refine z0j ?_ | refine qw ?_ | refine z0m ?_ | refine z0k ?_ | refine qi ?_ | refine qg (h := ?_) | refine qx (h := ?_) | refine qy (h := ?_) | refine qa ?_ | refine qc ?_ | refine ql ?_ | refine qp ?_ | refine z0a ?_ | rfl
     | (with_reducible first | refine ok_lt ?_ ?_ | refine ok_le ?_ ?_ | refine z0h ?_ ?_ | refine z0l ?_ ?_ | refine z0n ?_ ?_ | refine qu ?_ ?_ | refine ok_if ?_ ?_) <;> intro _ <;> try (exfalso; omega)
   exact ⟨ha.1, ha.2, rfl⟩
 · unfold z3b zdf
   dsimp only
   have hm := List.getElem_mem hi
   have pok : ∀ x, EntOk l K x → Ok (zg6 a x) fun r => r.length ≤ i + 1 ∧ ∀ y, y ∈ r → EntOk l K y := fun x hx =>
     z8j (z1rt (fun y hy => hy.by'.v) (fun y z hy hz => ⟨hy.by'.join hz.by', hy.ev⟩) a x (by omega) ha.2 hx) fun r hr => ⟨by omega, hr.2⟩
   repeat' first
     | (dsimp only [Int.toNat_natCast, List.length_nil])
     | ((with_reducible refine z1e (z1ut E _ _ _ (ByOk.zero E)) ?_); rintro _ ⟨b, hb, rfl⟩)
     | ((with_reducible refine z1e (pok _ ⟨hb, _, hm, ?_⟩) ?_))
     | ((with_reducible refine z0z ?_ ?_) <;> intro _ <;> try (exfalso; omega))
     | with_reducible first | refine z0g ?_ | refine z0f ?_ | refine z0d ?_ | refine z0e ?_ | refine z0b ?_ | refine z0i ?_ | refine qs ?_ | refine qb ?_ | refine z0j ?_ | refine qw ?_ | refine z0m ?_ | refine z0k ?_ | refine qi ?_ | refine qg (h := ?_) | refine qx (h := ?_) | refine qy (h := ?_) | refine qa ?_ | refine qc ?_ | refine ql ?_ | refine qp ?_ | refine z0a ?_ | rfl
     | (with_reducible first | refine ok_lt ?_ ?_ | refine ok_le ?_ ?_ | refine z0h ?_ ?_ | refine z0l ?_ ?_ | refine z0n ?_ ?_ | refine qu ?_ ?_ | refine ok_if ?_ ?_) <;> intro _ <;> try (exfalso; omega)
   all_goals first
     | exact ⟨a, by rw [z0r (by omega)]; rfl, by omega, ha.2⟩
     | (rintro r ⟨g1, g2⟩
        repeat' first
          | (dsimp only [Int.toNat_natCast, List.length_nil])
          | ((with_reducible refine z0z ?_ ?_) <;> intro _ <;> try (exfalso; omega))
          | with_reducible first | refine z0g ?_ | refine z0f ?_ | refine z0d ?_ | refine z0e ?_ | refine z0b ?_ | refine z0i ?_ | refine qs ?_ | refine qb ?_ | refine z0j ?_ | refine qw ?_ | refine z0m ?_ | refine z0k ?_ | refine qi ?_ | refine qg (h := ?_) | refine qx (h := ?_) | refine qy (h := ?_) | refine qa ?_ | refine qc ?_ | refine ql ?_ | refine qp ?_ | refine z0a ?_ | rfl
          | (with_reducible first | refine ok_lt ?_ ?_ | refine ok_le ?_ ?_ | refine z0h ?_ ?_ | refine z0l ?_ ?_ | refine z0n ?_ ?_ | refine qu ?_ ?_ | refine ok_if ?_ ?_) <;> intro _ <;> try (exfalso; omega)
        exact ⟨r, by rw [z0r (by omega)]; rfl, g1, g2⟩)
     | (rename_i h1 h2
        exact ⟨.inl h1, rfl, rfl, rfl, by rw [if_neg h2]⟩)
     | (rename_i h1 h2
        exact ⟨.inr (.inl h1), rfl, rfl, rfl, by rw [if_neg h2]⟩)
     | (rename_i h1 h2
        exact ⟨.inr (.inr h1), rfl, rfl, rfl, by rw [if_pos h2]⟩)
end Go.Proofs.Ytfbdjicfkcklfaa