import Derived.Test.YtpfjfldagldgnaaJrA
import Derived.Test.YtpfjfldagldgnaaJrOtoJrS
set_option maxRecDepth 100000
set_option linter.unusedVariables false
noncomputable section
namespace Go.Proofs.Ytpfjfldagldgnaa
open Go.Tm Go.Ab
def z13w : Env := ⟨[(entQ z15b z10w), (entQ z17f z15f), (entQ z17a z14w), (entQ zma zl3), (entQ zm4 zl4), (entQ zge zfl), (entQ zmf zjr), (entQ zef zdq)], [(entP zrn zq9), (entP zon zn6), (entP zmr zl6), (entP zzo zx7), (entP zh3 zgh), (entP ze9 zdw), (entP zh0 zgp), (entP zof zn0), (entP ze7 zdm), (entP zh6 zgm)], []⟩
theorem z9p : EnvsOK Try.prog z13w := ⟨z0d (z0j z1e0) (z0d (z0j z1g2) (z0d (z0j z1g9) (z0d (z0j zy7) (z0d (z0j zwx) (z0d (z0j znk) (z0d (z0j zxc) (z0d (z0j zke) (z0l _)))))))), z0o (z1a zze) (z0o (z1a zun) (z0o (z1a zy4) (z0o (z1a z1bn) (z0o (z1a zs3) (z0o (z1a zkp) (z0o (z1a zrv) (z0o (z1a zv0) (z0o (z1a zku) (z0o (z1a zrx) (z0h _)))))))))), z0g _⟩
def zjj : Shp := ⟨114, 0, [(0, .d c11), (3, .c .nilp)], []⟩
def zjb : Shp := ⟨114, 0, [(0, .d c11), (3, .pt 0 r0 [])], [.var 71 (.ag [.wn 1 c1, .d c2, .d (.int .i64), .d c3, .d (.int .i64), .d .bool]), .row 86 c1]⟩
def zea : XS := .or .normal zjj.xe (.one .normal zjb.xe)
theorem zuc : zea.OK := XS.or_ok (z0a zjj) (XS.one_ok (z0a zjb))
def zhc : Shp := ⟨114, 0, [(0, .d c11), (3, .c .nilp), (5, .c .nilp), (6, .d c5), (7, .d (.int .i64))], []⟩
def zhe : Shp := ⟨114, 0, [(0, .d c11), (3, .c .nilp), (5, .pt 0 r6 []), (6, .wn 1 (.sl (.int .u8))), (7, .d (.int .i64))], [.var 75 (.ag [.c .nilp, .d c4, .d (.sl (.int .u8)), .d (.int .i64), .d .bool]), .row 34 (.sl (.int .u8))]⟩
def zd7 : XS := .or .normal zhc.xe (.one .normal zhe.xe)
theorem zry : zd7.OK := XS.or_ok (z0a zhc) (XS.one_ok (z0a zhe))
def zi3 : Shp := ⟨114, 0, [(0, .d c11), (3, .c .nilp)], []⟩
def z7c : Shp := ⟨114, 0, [(3, .c .nilp), (5, .c .nilp), (8, .wn 0 .str), (38, .d c11), (39, .d (.int .i64)), (40, .d (.int .i64))], [.row 9 .str]⟩
def z7a : Shp := ⟨114, 0, [(3, .c .nilp), (5, .pt 0 r6 []), (8, .wn 1 .str), (38, .d c11), (39, .d (.int .i64)), (40, .d (.int .i64)), (57, .wn 2 (.sl (.int .u8))), (58, .wn 1 .str), (59, .d .bool), (60, .d .bool)], [.var 75 (.ag [.c .nilp, .d c4, .d (.sl (.int .u8)), .d (.int .i64), .d .bool]), .row 9 .str, .row 34 (.sl (.int .u8))]⟩
def z6z : Shp := ⟨114, 0, [(2, .d .bool)], []⟩
def z0k : XS := .or .normal z7c.xe (.or .normal z7a.xe (.one .ret z6z.xe))
theorem z1m : z0k.OK := XS.or_ok (z0a z7c) (XS.or_ok (z0a z7a) (XS.one_ok (z0a z6z)))
def z0t : Shp := ⟨114, 0, [(3, .c .nilp), (5, .c .nilp), (8, .wn 0 .str), (10, .pt 1 r12 []), (38, .d c11), (39, .d (.int .i64)), (40, .d (.int .i64))], [.row 9 .str, .var 44 (.d c13)]⟩
def z3y : Shp := ⟨114, 0, [(3, .c .nilp), (5, .c .nilp), (6, .d c5), (7, .d (.int .i64)), (8, .wn 0 .str), (38, .d c11), (39, .d (.int .i64)), (40, .d (.int .i64))], [.row 9 .str]⟩
def z3x : Shp := ⟨114, 0, [(3, .c .nilp), (5, .pt 0 r6 []), (6, .wn 1 (.sl (.int .u8))), (7, .d (.int .i64)), (8, .wn 2 .str), (38, .d c11), (39, .d (.int .i64)), (40, .d (.int .i64))], [.var 75 (.ag [.c .nilp, .d c4, .d (.sl (.int .u8)), .d (.int .i64), .d .bool]), .row 34 (.sl (.int .u8)), .row 9 .str]⟩
def z0c : XS := .or .normal z3y.xe (.one .normal z3x.xe)
theorem z0w : z0c.OK := XS.or_ok (z0a z3y) (XS.one_ok (z0a z3x))
def z0x : Shp := ⟨114, 0, [(3, .c .nilp), (8, .wn 0 .str), (38, .d c11), (39, .d (.int .i64)), (40, .d (.int .i64))], [.row 9 .str]⟩
def zaq : Shp := ⟨114, 0, [(3, .c .nilp), (8, .wn 0 .str)], [.row 9 .str]⟩
def zb3 : Shp := ⟨114, 0, [(2, .d .bool)], []⟩
def z2g : XS := .or (.exit 0) zaq.xe (.one .ret zb3.xe)
theorem zgw : z2g.OK := XS.or_ok (z0a zaq) (XS.one_ok (z0a zb3))
def z1e : Shp := ⟨114, 0, [(3, .c .nilp), (5, .c .nilp), (8, .wn 0 .str), (38, .d c11), (39, .d (.int .i64)), (40, .d (.int .i64))], [.row 9 .str]⟩
abbrev z7e := (List T4) × Int × Int × (List (List Int))
abbrev zbc := ((List (List Int))) ⊕ (Bool)
def zik (t38 : List T4) (t39 : Int) (t40 : Int) (want : List (List Int)) : Option (z7e ⊕ zbc) :=
 bif ltI t40 t39 then
 (idxI t38 t40).bind fun x =>
 (show Option (((List T4) × Int × Int × (List (List Int))) ⊕ ((List T4) × Int × Int × Bool × Bool × T2 × (List Int) × Int × Bool × (List (List Int)) × (List (List Int))) ⊕ (Bool)) from
 bif eqI (Int.tmod (WU64 (x.1)) 5) 0 then
 (zgl x.2.1).bind fun r =>
 bif eqI r 0 then
 (z6q x.2.1).bind fun r2 =>
 bif Nat.beq (List.length want) (List.length want) then
 winK r2 0 (List.length r2) fun w =>
 appG (List.length want) (List.length w) 16 fun _ =>
 bif Nat.beq (List.length (want ++ w)) (List.length (want ++ w)) then
 some (.inl (t38, t39, t40, want ++ w))
 else none
 else none
 else
 bif neI r 5 then
 some (.inr (.inr false))
 else
 bif Nat.beq (List.length want) (List.length want) then
 some (.inl (t38, t39, t40, want))
 else none
 else
 bif eqI (Int.tmod (WU64 (x.1)) 5) 1 then
 (zda x.2.1).bind fun r3 =>
 bif eqI r3 0 then
 (z6q x.2.1).bind fun r4 =>
 bif Nat.beq (List.length r4) (List.length r4) then
 some (.inl (t38, t39, t40, r4))
 else none
 else
 bif neI r3 5 then
 some (.inr (.inr false))
 else
 bif Nat.beq (List.length want) (List.length want) then
 some (.inl (t38, t39, t40, want))
 else none
 else
 (show Option (((List (List Int)) × Int × (List T4) × Int × Int × (List (List Int))) ⊕ (Int × (List T4) × Int × Int × T2 × (List Int) × Int × Bool × (List (List Int)) × (List (List Int)))) from
 (za8).bind fun r5 =>
 Sum.elim (fun y =>
 bif Nat.beq (List.length want) (List.length want) then
 some (.inl (y.1, y.2, t38, t39, t40, want))
 else none) (fun y2 =>
 bif Nat.beq (List.length y2.2.2.2.2.2) (List.length y2.2.2.2.2.2) then
 bif Nat.beq (List.length want) (List.length want) then
 some (.inr (y2.1, t38, t39, t40, y2.2.1, y2.2.2.1, y2.2.2.2.1, y2.2.2.2.2.1, y2.2.2.2.2.2, want))
 else none
 else none) r5).bind fun j =>
 Sum.elim (fun y3 =>
 bif neI y3.2.1 0 then
 some (.inr (.inr false))
 else
 winK y3.2.2.2.2.2 0 (List.length y3.2.2.2.2.2) fun w2 =>
 (z5v y3.1 w2).bind fun r6 =>
 bif !r6 then
 some (.inr (.inr false))
 else
 bif Nat.beq (List.length y3.2.2.2.2.2) (List.length y3.2.2.2.2.2) then
 some (.inl (y3.2.2.1, y3.2.2.2.1, y3.2.2.2.2.1, y3.2.2.2.2.2))
 else none) (fun y4 =>
 bif neI y4.1 0 then
 some (.inr (.inr false))
 else
 winK y4.2.2.2.2.2.2.2.2.1 0 (List.length y4.2.2.2.2.2.2.2.2.1) fun w3 =>
 winK y4.2.2.2.2.2.2.2.2.2 0 (List.length y4.2.2.2.2.2.2.2.2.2) fun w4 =>
 (z5v w3 w4).bind fun r7 =>
 bif !r7 then
 some (.inr (.inr false))
 else
 bif Nat.beq (List.length y4.2.2.2.2.2.2.2.2.2) (List.length y4.2.2.2.2.2.2.2.2.2) then
 bif Nat.beq (List.length y4.2.2.2.2.2.2.2.2.1) (List.length y4.2.2.2.2.2.2.2.2.1) then
 bif Nat.beq (List.length y4.2.2.2.2.2.2.2.2.2) (List.length y4.2.2.2.2.2.2.2.2.2) then
 some (.inr (.inl (y4.2.1, y4.2.2.1, y4.2.2.2.1, r7, !r7, y4.2.2.2.2.1, y4.2.2.2.2.2.1, y4.2.2.2.2.2.2.1, y4.2.2.2.2.2.2.2.1, y4.2.2.2.2.2.2.2.2.2, y4.2.2.2.2.2.2.2.2.1)))
 else none
 else none
 else none) j).bind fun j2 =>
 Sum.elim (fun y5 =>
 (za6).bind fun r8 =>
 z0f (List.length y5.2.2.2) (
 bif neI r8 (List.length y5.2.2.2 : Nat) then
 some (.inr (.inr false))
 else
 (zaf).bind fun r9 =>
 bif neI r9 0 then
 some (.inr (.inr false))
 else
 bif Nat.beq (List.length y5.2.2.2) (List.length y5.2.2.2) then
 some (.inl (y5.1, y5.2.1, W64 (y5.2.2.1 + 1), y5.2.2.2))
 else none)) (fun y6 =>
 Sum.elim (fun y7 =>
 (ze2 y7.2.2.2.2.2.1 y7.2.2.2.2.2.2.1 y7.2.2.2.2.2.2.2.1 y7.2.2.2.2.2.2.2.2.1).bind fun r10 =>
 z0f (List.length y7.2.2.2.2.2.2.2.2.2.1) (
 bif neI r10 (List.length y7.2.2.2.2.2.2.2.2.2.1 : Nat) then
 some (.inr (.inr false))
 else
 (zaf).bind fun r11 =>
 bif neI r11 0 then
 some (.inr (.inr false))
 else
 none)) (fun y8 =>
 some (.inr (.inr y8))) y6) j2
 else
 bif Nat.beq (List.length want) (List.length want) then
 some (.inr (.inl want))
 else none
def z2h (s : z7e) : Option (z7e ⊕ zbc) := zik s.1 s.2.1 s.2.2.1 s.2.2.2
theorem zhi : SoundD Try.prog (.loop (subC (bodyC Try.f4) [1, 1, 1, 1, 1, 1, 0, 1, 0, 0])) (loopD z1e.xe z2g (loopC z2h)) :=
 z1f (S := z1e.xe) (X := z2g) z9p (h := (.two .no (.two .no (.two (.two .no (.join (fun _ => z0k) (.two .no (.two .no (.two .no (.two .no (.two .no (.join (fun _ => z0c) .no .no)))))) .no)) .no)))) (z0e [.xs (fun _ => z0k), .xs (fun _ => z0c)] (by kernel_rfl) ⟨(z1p z1m), (z1p z0w), trivial⟩) (z0a z1e) zgw z2h (fun s => by kernel_rfl)
def zck : Shp := ⟨114, 0, [(6, .d c5), (7, .d (.int .i64)), (8, .wn 0 .str)], [.row 9 .str]⟩
def z9k : XS := .one .normal zck.xe
theorem zkv : z9k.OK := XS.one_ok (z0a zck)
def zcz : Shp := ⟨114, 0, [(3, .c .nilp), (8, .wn 0 .str)], [.row 9 .str]⟩
def z6f : Shp := ⟨114, 0, [(3, .c .nilp), (5, .pt 0 r6 []), (8, .wn 1 .str), (38, .d c11), (39, .d (.int .i64)), (40, .d (.int .i64))], [.var 75 (.ag [.c .nilp, .d c4, .d (.sl (.int .u8)), .d (.int .i64), .d .bool]), .row 9 .str]⟩
def z6c : Shp := ⟨114, 0, [(3, .c .nilp), (5, .c .nilp), (8, .wn 0 .str), (38, .d c11), (39, .d (.int .i64)), (40, .d (.int .i64)), (57, .d c5), (58, .wn 0 .str), (59, .d .bool), (60, .d .bool)], [.row 9 .str]⟩
def z5z : Shp := ⟨114, 0, [(2, .d .bool)], []⟩
def z0m : XS := .or .normal z6f.xe (.or .normal z6c.xe (.one .ret z5z.xe))
theorem z2s : z0m.OK := XS.or_ok (z0a z6f) (XS.or_ok (z0a z6c) (XS.one_ok (z0a z5z)))
def z1n : Shp := ⟨114, 0, [(3, .c .nilp), (5, .pt 0 r6 []), (8, .wn 1 .str), (10, .pt 2 r12 []), (38, .d c11), (39, .d (.int .i64)), (40, .d (.int .i64))], [.var 75 (.ag [.c .nilp, .d c4, .d (.sl (.int .u8)), .d (.int .i64), .d .bool]), .row 9 .str, .var 44 (.d c13)]⟩
def za2 : Shp := ⟨114, 0, [(3, .c .nilp), (8, .wn 0 .str)], [.row 9 .str]⟩
def za5 : Shp := ⟨114, 0, [(2, .d .bool)], []⟩
def z1q : XS := .or (.exit 0) za2.xe (.one .ret za5.xe)
theorem zg1 : z1q.OK := XS.or_ok (z0a za2) (XS.one_ok (z0a za5))
def z0z : Shp := ⟨114, 0, [(3, .c .nilp), (5, .pt 0 r6 []), (8, .wn 1 .str), (38, .d c11), (39, .d (.int .i64)), (40, .d (.int .i64))], [.var 75 (.ag [.c .nilp, .d c4, .d (.sl (.int .u8)), .d (.int .i64), .d .bool]), .row 9 .str]⟩
abbrev z5s := (List T4) × Int × Int × T2 × (List Int) × Int × Bool × (List (List Int))
abbrev zb1 := ((List (List Int))) ⊕ (Bool)
def zhr (t38 : List T4) (t39 : Int) (t40 : Int) (j : T2) (j2 : List Int) (j3 : Int) (j4 : Bool) (want : List (List Int)) : Option (z5s ⊕ zb1) :=
 bif ltI t40 t39 then
 (idxI t38 t40).bind fun x =>
 (show Option (((List T4) × Int × Int × T2 × (List Int) × Int × Bool × (List (List Int))) ⊕ ((List T4) × Int × Int × (List (List Int)) × Bool × Bool × (List (List Int))) ⊕ (Bool)) from
 bif eqI (Int.tmod (WU64 (x.1)) 5) 0 then
 (zgk x.2.1 j j2 j3 j4).bind fun r =>
 bif eqI r.1 0 then
 (z6q x.2.1).bind fun r2 =>
 bif Nat.beq (List.length want) (List.length want) then
 winK r2 0 (List.length r2) fun w =>
 appG (List.length want) (List.length w) 16 fun _ =>
 bif Nat.beq (List.length (want ++ w)) (List.length (want ++ w)) then
 some (.inl (t38, t39, t40, r.2.1, r.2.2.1, r.2.2.2.1, r.2.2.2.2, want ++ w))
 else none
 else none
 else
 bif neI r.1 5 then
 some (.inr (.inr false))
 else
 bif Nat.beq (List.length want) (List.length want) then
 some (.inl (t38, t39, t40, r.2.1, r.2.2.1, r.2.2.2.1, r.2.2.2.2, want))
 else none
 else
 bif eqI (Int.tmod (WU64 (x.1)) 5) 1 then
 (zit x.2.1 j j2 j3 j4).bind fun r3 =>
 bif eqI r3.1 0 then
 (z6q x.2.1).bind fun r4 =>
 bif Nat.beq (List.length r4) (List.length r4) then
 some (.inl (t38, t39, t40, r3.2.1, r3.2.2.1, r3.2.2.2.1, r3.2.2.2.2, r4))
 else none
 else
 bif neI r3.1 5 then
 some (.inr (.inr false))
 else
 bif Nat.beq (List.length want) (List.length want) then
 some (.inl (t38, t39, t40, r3.2.1, r3.2.2.1, r3.2.2.2.1, r3.2.2.2.2, want))
 else none
 else
 (show Option (((List (List Int)) × Int × (List T4) × Int × Int × (List (List Int))) ⊕ (Int × (List T4) × Int × Int × T2 × (List Int) × Int × Bool × (List (List Int)) × (List (List Int)))) from
 (za8).bind fun r5 =>
 Sum.elim (fun y =>
 bif Nat.beq (List.length want) (List.length want) then
 some (.inl (y.1, y.2, t38, t39, t40, want))
 else none) (fun y2 =>
 bif Nat.beq (List.length y2.2.2.2.2.2) (List.length y2.2.2.2.2.2) then
 bif Nat.beq (List.length want) (List.length want) then
 some (.inr (y2.1, t38, t39, t40, y2.2.1, y2.2.2.1, y2.2.2.2.1, y2.2.2.2.2.1, y2.2.2.2.2.2, want))
 else none
 else none) r5).bind fun j5 =>
 Sum.elim (fun y3 =>
 bif neI y3.2.1 0 then
 some (.inr (.inr false))
 else
 winK y3.2.2.2.2.2 0 (List.length y3.2.2.2.2.2) fun w2 =>
 (z5v y3.1 w2).bind fun r6 =>
 bif !r6 then
 some (.inr (.inr false))
 else
 bif Nat.beq (List.length y3.2.2.2.2.2) (List.length y3.2.2.2.2.2) then
 bif Nat.beq (List.length y3.2.2.2.2.2) (List.length y3.2.2.2.2.2) then
 some (.inr (.inl (y3.2.2.1, y3.2.2.2.1, y3.2.2.2.2.1, y3.1, r6, !r6, y3.2.2.2.2.2)))
 else none
 else none) (fun y4 =>
 bif neI y4.1 0 then
 some (.inr (.inr false))
 else
 winK y4.2.2.2.2.2.2.2.2.1 0 (List.length y4.2.2.2.2.2.2.2.2.1) fun w3 =>
 winK y4.2.2.2.2.2.2.2.2.2 0 (List.length y4.2.2.2.2.2.2.2.2.2) fun w4 =>
 (z5v w3 w4).bind fun r7 =>
 bif !r7 then
 some (.inr (.inr false))
 else
 bif Nat.beq (List.length y4.2.2.2.2.2.2.2.2.2) (List.length y4.2.2.2.2.2.2.2.2.2) then
 some (.inl (y4.2.1, y4.2.2.1, y4.2.2.2.1, y4.2.2.2.2.1, y4.2.2.2.2.2.1, y4.2.2.2.2.2.2.1, y4.2.2.2.2.2.2.2.1, y4.2.2.2.2.2.2.2.2.2))
 else none) j5).bind fun j6 =>
 Sum.elim (fun y5 =>
 (ze2 y5.2.2.2.1 y5.2.2.2.2.1 y5.2.2.2.2.2.1 y5.2.2.2.2.2.2.1).bind fun r8 =>
 z0f (List.length y5.2.2.2.2.2.2.2) (
 bif neI r8 (List.length y5.2.2.2.2.2.2.2 : Nat) then
 some (.inr (.inr false))
 else
 (zaf).bind fun r9 =>
 bif neI r9 0 then
 some (.inr (.inr false))
 else
 bif Nat.beq (List.length y5.2.2.2.2.2.2.2) (List.length y5.2.2.2.2.2.2.2) then
 some (.inl (y5.1, y5.2.1, W64 (y5.2.2.1 + 1), y5.2.2.2.1, y5.2.2.2.2.1, y5.2.2.2.2.2.1, y5.2.2.2.2.2.2.1, y5.2.2.2.2.2.2.2))
 else none)) (fun y6 =>
 Sum.elim (fun y7 =>
 (za6).bind fun r10 =>
 z0f (List.length y7.2.2.2.2.2.2) (
 bif neI r10 (List.length y7.2.2.2.2.2.2 : Nat) then
 some (.inr (.inr false))
 else
 (zaf).bind fun r11 =>
 bif neI r11 0 then
 some (.inr (.inr false))
 else
 none)) (fun y8 =>
 some (.inr (.inr y8))) y6) j6
 else
 bif Nat.beq (List.length want) (List.length want) then
 some (.inr (.inl want))
 else none
def z1z (s : z5s) : Option (z5s ⊕ zb1) := zhr s.1 s.2.1 s.2.2.1 s.2.2.2.1 s.2.2.2.2.1 s.2.2.2.2.2.1 s.2.2.2.2.2.2.1 s.2.2.2.2.2.2.2
theorem zgf : SoundD Try.prog (.loop (subC (bodyC Try.f4) [1, 1, 1, 1, 1, 1, 0, 1, 0, 0])) (loopD z0z.xe z1q (loopC z1z)) :=
 z1f (S := z0z.xe) (X := z1q) z9p (h := (.two .no (.two .no (.two (.two .no (.join (altX z0t.fit (fun _ => z0k) (fun _ => z0m)) (.two .no (.two .no (.two .no (.two .no (.two .no (.join (fun _ => z0c) .no .no)))))) .no)) .no)))) (z0e [.xs (altX z0t.fit (fun _ => z0k) (fun _ => z0m)), .xs (fun _ => z0c)] (by kernel_rfl) ⟨(zej (z1p z1m) (z1p z2s)), (z1p z0w), trivial⟩) (z0a z0z) zg1 z1z (fun s => by kernel_rfl)
def zfz : Shp := ⟨114, 0, [(0, .d c11), (3, .pt 0 r0 []), (5, .c .nilp), (6, .d c5), (7, .d (.int .i64))], [.var 71 (.ag [.wn 1 c1, .d c2, .d (.int .i64), .d c3, .d (.int .i64), .d .bool]), .row 86 c1]⟩
def zfs : Shp := ⟨114, 0, [(0, .d c11), (3, .pt 0 r0 []), (5, .pt 1 r6 []), (6, .wn 2 (.sl (.int .u8))), (7, .d (.int .i64))], [.var 71 (.ag [.wn 3 c1, .d c2, .d (.int .i64), .d c3, .d (.int .i64), .d .bool]), .var 75 (.ag [.pt 0 r0 [], .d c4, .d (.sl (.int .u8)), .d (.int .i64), .d .bool]), .row 34 (.sl (.int .u8)), .row 86 c1]⟩
def zc0 : XS := .or .normal zfz.xe (.one .normal zfs.xe)
theorem zq8 : zc0.OK := XS.or_ok (z0a zfz) (XS.one_ok (z0a zfs))
def z5y : Shp := ⟨114, 0, [(3, .pt 0 r0 []), (5, .c .nilp), (8, .wn 1 .str), (38, .d c11), (39, .d (.int .i64)), (40, .d (.int .i64))], [.var 71 (.ag [.wn 2 c1, .d c2, .d (.int .i64), .d c3, .d (.int .i64), .d .bool]), .row 9 .str, .row 86 c1]⟩
def z6b : Shp := ⟨114, 0, [(3, .pt 0 r0 []), (5, .pt 1 r6 []), (8, .wn 2 .str), (38, .d c11), (39, .d (.int .i64)), (40, .d (.int .i64)), (57, .wn 3 (.sl (.int .u8))), (58, .wn 2 .str), (59, .d .bool), (60, .d .bool)], [.var 71 (.ag [.wn 4 c1, .d c2, .d (.int .i64), .d c3, .d (.int .i64), .d .bool]), .var 75 (.ag [.pt 0 r0 [], .d c4, .d (.sl (.int .u8)), .d (.int .i64), .d .bool]), .row 9 .str, .row 34 (.sl (.int .u8)), .row 86 c1]⟩
def z6a : Shp := ⟨114, 0, [(2, .d .bool)], []⟩
def z1c : XS := .or .normal z5y.xe (.or .normal z6b.xe (.one .ret z6a.xe))
theorem z5m : z1c.OK := XS.or_ok (z0a z5y) (XS.or_ok (z0a z6b) (XS.one_ok (z0a z6a)))
def z6p : Shp := ⟨114, 0, [(3, .pt 0 r0 []), (5, .c .nilp), (8, .wn 1 .str), (10, .pt 2 r12 []), (38, .d c11), (39, .d (.int .i64)), (40, .d (.int .i64))], [.var 71 (.ag [.wn 3 c1, .d c2, .d (.int .i64), .d c3, .d (.int .i64), .d .bool]), .row 9 .str, .var 44 (.d c13), .row 86 c1]⟩
def z3k : Shp := ⟨114, 0, [(3, .pt 0 r0 []), (5, .c .nilp), (6, .d c5), (7, .d (.int .i64)), (8, .wn 1 .str), (38, .d c11), (39, .d (.int .i64)), (40, .d (.int .i64))], [.var 71 (.ag [.wn 2 c1, .d c2, .d (.int .i64), .d c3, .d (.int .i64), .d .bool]), .row 9 .str, .row 86 c1]⟩
def z3l : Shp := ⟨114, 0, [(3, .pt 0 r0 []), (5, .pt 1 r6 []), (6, .wn 2 (.sl (.int .u8))), (7, .d (.int .i64)), (8, .wn 3 .str), (38, .d c11), (39, .d (.int .i64)), (40, .d (.int .i64))], [.var 71 (.ag [.wn 4 c1, .d c2, .d (.int .i64), .d c3, .d (.int .i64), .d .bool]), .var 75 (.ag [.pt 0 r0 [], .d c4, .d (.sl (.int .u8)), .d (.int .i64), .d .bool]), .row 34 (.sl (.int .u8)), .row 9 .str, .row 86 c1]⟩
def z0q : XS := .or .normal z3k.xe (.one .normal z3l.xe)
theorem z3e : z0q.OK := XS.or_ok (z0a z3k) (XS.one_ok (z0a z3l))
def zaa : Shp := ⟨114, 0, [(3, .pt 0 r0 []), (8, .wn 1 .str)], [.var 71 (.ag [.wn 2 c1, .d c2, .d (.int .i64), .d c3, .d (.int .i64), .d .bool]), .row 9 .str, .row 86 c1]⟩
def zad : Shp := ⟨114, 0, [(2, .d .bool)], []⟩
def z1w : XS := .or (.exit 0) zaa.xe (.one .ret zad.xe)
theorem zg3 : z1w.OK := XS.or_ok (z0a zaa) (XS.one_ok (z0a zad))
def z0y : Shp := ⟨114, 0, [(3, .pt 0 r0 []), (5, .c .nilp), (8, .wn 1 .str), (38, .d c11), (39, .d (.int .i64)), (40, .d (.int .i64))], [.var 71 (.ag [.wn 2 c1, .d c2, .d (.int .i64), .d c3, .d (.int .i64), .d .bool]), .row 9 .str, .row 86 c1]⟩
abbrev z5r := (List T4) × Int × Int × (List T0) × Int × T1 × Int × Bool × (List (List Int)) × (List (List Int))
abbrev zar := ((List T0) × Int × T1 × Int × Bool × (List (List Int)) × (List (List Int))) ⊕ (Bool)
def zhq (t38 : List T4) (t39 : Int) (t40 : Int) (d : List T0) (d2 : Int) (d3 : T1) (d4 : Int) (d5 : Bool) (want : List (List Int)) (d6 : List (List Int)) : Option (z5r ⊕ zar) :=
 bif ltI t40 t39 then
 (idxI t38 t40).bind fun x =>
 (show Option (((List T4) × Int × Int × (List T0) × Int × T1 × Int × Bool × (List (List Int)) × (List (List Int))) ⊕ ((List T4) × Int × Int × Bool × Bool × (List T0) × Int × T1 × Int × Bool × T2 × (List Int) × Int × Bool × (List (List Int)) × (List (List Int)) × (List (List Int))) ⊕ (Bool)) from
 bif eqI (Int.tmod (WU64 (x.1)) 5) 0 then
 (zgl x.2.1).bind fun r =>
 bif eqI r 0 then
 (z6q x.2.1).bind fun r2 =>
 bif Nat.beq (List.length want) (List.length want) then
 winK r2 0 (List.length r2) fun w =>
 appG (List.length want) (List.length w) 16 fun _ =>
 bif Nat.beq (List.length (want ++ w)) (List.length (want ++ w)) then
 bif Nat.beq (List.length d6) (List.length d6) then
 some (.inl (t38, t39, t40, d, d2, d3, d4, d5, want ++ w, d6))
 else none
 else none
 else none
 else
 bif neI r 5 then
 some (.inr (.inr false))
 else
 bif Nat.beq (List.length want) (List.length want) then
 bif Nat.beq (List.length d6) (List.length d6) then
 some (.inl (t38, t39, t40, d, d2, d3, d4, d5, want, d6))
 else none
 else none
 else
 bif eqI (Int.tmod (WU64 (x.1)) 5) 1 then
 (zda x.2.1).bind fun r3 =>
 bif eqI r3 0 then
 (z6q x.2.1).bind fun r4 =>
 bif Nat.beq (List.length r4) (List.length r4) then
 bif Nat.beq (List.length d6) (List.length d6) then
 some (.inl (t38, t39, t40, d, d2, d3, d4, d5, r4, d6))
 else none
 else none
 else
 bif neI r3 5 then
 some (.inr (.inr false))
 else
 bif Nat.beq (List.length want) (List.length want) then
 bif Nat.beq (List.length d6) (List.length d6) then
 some (.inl (t38, t39, t40, d, d2, d3, d4, d5, want, d6))
 else none
 else none
 else
 (show Option (((List (List Int)) × Int × (List T4) × Int × Int × (List T0) × Int × T1 × Int × Bool × (List (List Int)) × (List (List Int))) ⊕ (Int × (List T4) × Int × Int × (List T0) × Int × T1 × Int × Bool × T2 × (List Int) × Int × Bool × (List (List Int)) × (List (List Int)) × (List (List Int)))) from
 bif Nat.beq (List.length d6) (List.length d6) then
 (z2u d d2 d3 d4 d5 d6).bind fun r5 =>
 Sum.elim (fun y =>
 bif Nat.beq (List.length want) (List.length want) then
 bif Nat.beq (List.length y.2.2.2.2.2.2.2) (List.length y.2.2.2.2.2.2.2) then
 some (.inl (y.1, y.2.1, t38, t39, t40, y.2.2.1, y.2.2.2.1, y.2.2.2.2.1, y.2.2.2.2.2.1, y.2.2.2.2.2.2.1, want, y.2.2.2.2.2.2.2))
 else none
 else none) (fun y2 =>
 bif Nat.beq (List.length y2.2.2.2.2.2.2.2.2.2.2.1) (List.length y2.2.2.2.2.2.2.2.2.2.2.1) then
 bif Nat.beq (List.length want) (List.length want) then
 bif Nat.beq (List.length y2.2.2.2.2.2.2.2.2.2.2.2) (List.length y2.2.2.2.2.2.2.2.2.2.2.2) then
 some (.inr (y2.1, t38, t39, t40, y2.2.1, y2.2.2.1, y2.2.2.2.1, y2.2.2.2.2.1, y2.2.2.2.2.2.1, y2.2.2.2.2.2.2.1, y2.2.2.2.2.2.2.2.1, y2.2.2.2.2.2.2.2.2.1, y2.2.2.2.2.2.2.2.2.2.1, y2.2.2.2.2.2.2.2.2.2.2.1, want, y2.2.2.2.2.2.2.2.2.2.2.2))
 else none
 else none
 else none) r5
 else none).bind fun j =>
 Sum.elim (fun y3 =>
 bif neI y3.2.1 0 then
 some (.inr (.inr false))
 else
 winK y3.2.2.2.2.2.2.2.2.2.2.1 0 (List.length y3.2.2.2.2.2.2.2.2.2.2.1) fun w2 =>
 (z5v y3.1 w2).bind fun r6 =>
 bif !r6 then
 some (.inr (.inr false))
 else
 bif Nat.beq (List.length y3.2.2.2.2.2.2.2.2.2.2.1) (List.length y3.2.2.2.2.2.2.2.2.2.2.1) then
 bif Nat.beq (List.length y3.2.2.2.2.2.2.2.2.2.2.2) (List.length y3.2.2.2.2.2.2.2.2.2.2.2) then
 some (.inl (y3.2.2.1, y3.2.2.2.1, y3.2.2.2.2.1, y3.2.2.2.2.2.1, y3.2.2.2.2.2.2.1, y3.2.2.2.2.2.2.2.1, y3.2.2.2.2.2.2.2.2.1, y3.2.2.2.2.2.2.2.2.2.1, y3.2.2.2.2.2.2.2.2.2.2.1, y3.2.2.2.2.2.2.2.2.2.2.2))
 else none
 else none) (fun y4 =>
 bif neI y4.1 0 then
 some (.inr (.inr false))
 else
 winK y4.2.2.2.2.2.2.2.2.2.2.2.2.2.1 0 (List.length y4.2.2.2.2.2.2.2.2.2.2.2.2.2.1) fun w3 =>
 winK y4.2.2.2.2.2.2.2.2.2.2.2.2.2.2.1 0 (List.length y4.2.2.2.2.2.2.2.2.2.2.2.2.2.2.1) fun w4 =>
 (z5v w3 w4).bind fun r7 =>
 bif !r7 then
 some (.inr (.inr false))
 else
 bif Nat.beq (List.length y4.2.2.2.2.2.2.2.2.2.2.2.2.2.2.1) (List.length y4.2.2.2.2.2.2.2.2.2.2.2.2.2.2.1) then
 bif Nat.beq (List.length y4.2.2.2.2.2.2.2.2.2.2.2.2.2.1) (List.length y4.2.2.2.2.2.2.2.2.2.2.2.2.2.1) then
 bif Nat.beq (List.length y4.2.2.2.2.2.2.2.2.2.2.2.2.2.2.1) (List.length y4.2.2.2.2.2.2.2.2.2.2.2.2.2.2.1) then
 bif Nat.beq (List.length y4.2.2.2.2.2.2.2.2.2.2.2.2.2.2.2) (List.length y4.2.2.2.2.2.2.2.2.2.2.2.2.2.2.2) then
 some (.inr (.inl (y4.2.1, y4.2.2.1, y4.2.2.2.1, r7, !r7, y4.2.2.2.2.1, y4.2.2.2.2.2.1, y4.2.2.2.2.2.2.1, y4.2.2.2.2.2.2.2.1, y4.2.2.2.2.2.2.2.2.1, y4.2.2.2.2.2.2.2.2.2.1, y4.2.2.2.2.2.2.2.2.2.2.1, y4.2.2.2.2.2.2.2.2.2.2.2.1, y4.2.2.2.2.2.2.2.2.2.2.2.2.1, y4.2.2.2.2.2.2.2.2.2.2.2.2.2.2.1, y4.2.2.2.2.2.2.2.2.2.2.2.2.2.1, y4.2.2.2.2.2.2.2.2.2.2.2.2.2.2.2)))
 else none
 else none
 else none
 else none) j).bind fun j2 =>
 Sum.elim (fun y5 =>
 (za6).bind fun r8 =>
 z0f (List.length y5.2.2.2.2.2.2.2.2.1) (
 bif neI r8 (List.length y5.2.2.2.2.2.2.2.2.1 : Nat) then
 some (.inr (.inr false))
 else
 winK y5.2.2.2.2.2.2.2.2.2 0 (List.length y5.2.2.2.2.2.2.2.2.2) fun w5 =>
 (z5f (w5, y5.2.2.2.1, y5.2.2.2.2.1, y5.2.2.2.2.2.1, y5.2.2.2.2.2.2.1, y5.2.2.2.2.2.2.2.1)).bind fun r9 =>
 bif neI r9 0 then
 some (.inr (.inr false))
 else
 bif Nat.beq (List.length y5.2.2.2.2.2.2.2.2.1) (List.length y5.2.2.2.2.2.2.2.2.1) then
 bif Nat.beq (List.length y5.2.2.2.2.2.2.2.2.2) (List.length y5.2.2.2.2.2.2.2.2.2) then
 some (.inl (y5.1, y5.2.1, W64 (y5.2.2.1 + 1), y5.2.2.2.1, y5.2.2.2.2.1, y5.2.2.2.2.2.1, y5.2.2.2.2.2.2.1, y5.2.2.2.2.2.2.2.1, y5.2.2.2.2.2.2.2.2.1, y5.2.2.2.2.2.2.2.2.2))
 else none
 else none)) (fun y6 =>
 Sum.elim (fun y7 =>
 winK y7.2.2.2.2.2.2.2.2.2.2.2.2.2.2.2.2 0 (List.length y7.2.2.2.2.2.2.2.2.2.2.2.2.2.2.2.2) fun w6 =>
 (z7w (w6, y7.2.2.2.2.2.1, y7.2.2.2.2.2.2.1, y7.2.2.2.2.2.2.2.1, y7.2.2.2.2.2.2.2.2.1, y7.2.2.2.2.2.2.2.2.2.1) y7.2.2.2.2.2.2.2.2.2.2.1 y7.2.2.2.2.2.2.2.2.2.2.2.1 y7.2.2.2.2.2.2.2.2.2.2.2.2.1 y7.2.2.2.2.2.2.2.2.2.2.2.2.2.1).bind fun r10 =>
 z0f (List.length y7.2.2.2.2.2.2.2.2.2.2.2.2.2.2.1) (
 bif neI r10 (List.length y7.2.2.2.2.2.2.2.2.2.2.2.2.2.2.1 : Nat) then
 some (.inr (.inr false))
 else
 winK y7.2.2.2.2.2.2.2.2.2.2.2.2.2.2.2.2 0 (List.length y7.2.2.2.2.2.2.2.2.2.2.2.2.2.2.2.2) fun w7 =>
 (z5f (w7, y7.2.2.2.2.2.1, y7.2.2.2.2.2.2.1, y7.2.2.2.2.2.2.2.1, y7.2.2.2.2.2.2.2.2.1, y7.2.2.2.2.2.2.2.2.2.1)).bind fun r11 =>
 bif neI r11 0 then
 some (.inr (.inr false))
 else
 none)) (fun y8 =>
 some (.inr (.inr y8))) y6) j2
 else
 bif Nat.beq (List.length want) (List.length want) then
 bif Nat.beq (List.length d6) (List.length d6) then
 some (.inr (.inl (d, d2, d3, d4, d5, want, d6)))
 else none
 else none
def z1r (s : z5r) : Option (z5r ⊕ zar) := zhq s.1 s.2.1 s.2.2.1 s.2.2.2.1 s.2.2.2.2.1 s.2.2.2.2.2.1 s.2.2.2.2.2.2.1 s.2.2.2.2.2.2.2.1 s.2.2.2.2.2.2.2.2.1 s.2.2.2.2.2.2.2.2.2
theorem zgr : SoundD Try.prog (.loop (subC (bodyC Try.f4) [1, 1, 1, 1, 1, 1, 0, 1, 0, 0])) (loopD z0y.xe z1w (loopC z1r)) :=
 z1f (S := z0y.xe) (X := z1w) z9p (h := (.two .no (.two .no (.two (.two .no (.join (altX z0t.fit (fun _ => z0k) (altX z1n.fit (fun _ => z0m) (fun _ => z1c))) (.two .no (.two .no (.two .no (.two .no (.two .no (.join (altX z0x.fit (fun _ => z0c) (fun _ => z0q)) .no .no)))))) .no)) .no)))) (z0e [.xs (altX z0t.fit (fun _ => z0k) (altX z1n.fit (fun _ => z0m) (fun _ => z1c))), .xs (altX z0x.fit (fun _ => z0c) (fun _ => z0q))] (by kernel_rfl) ⟨(zej (z1p z1m) (zej (z1p z2s) (z1p z5m))), (zej (z1p z0w) (z1p z3e)), trivial⟩) (z0a z0y) zg3 z1r (fun s => by kernel_rfl)
def zbi : Shp := ⟨114, 0, [(6, .d c5), (7, .d (.int .i64)), (8, .wn 0 .str)], [.row 9 .str]⟩
def z8j : XS := .one .normal zbi.xe
theorem zim : z8j.OK := XS.one_ok (z0a zbi)
def z6e : Shp := ⟨114, 0, [(3, .pt 0 r0 []), (5, .c .nilp), (8, .wn 1 .str), (38, .d c11), (39, .d (.int .i64)), (40, .d (.int .i64)), (57, .d c5), (58, .wn 1 .str), (59, .d .bool), (60, .d .bool)], [.var 71 (.ag [.wn 2 c1, .d c2, .d (.int .i64), .d c3, .d (.int .i64), .d .bool]), .row 9 .str, .row 86 c1]⟩
def z6d : Shp := ⟨114, 0, [(3, .pt 0 r0 []), (5, .pt 1 r6 []), (8, .wn 2 .str), (38, .d c11), (39, .d (.int .i64)), (40, .d (.int .i64))], [.var 71 (.ag [.wn 3 c1, .d c2, .d (.int .i64), .d c3, .d (.int .i64), .d .bool]), .var 75 (.ag [.pt 0 r0 [], .d c4, .d (.sl (.int .u8)), .d (.int .i64), .d .bool]), .row 9 .str, .row 86 c1]⟩
def z5x : Shp := ⟨114, 0, [(2, .d .bool)], []⟩
def z3f : XS := .or .normal z6e.xe (.or .normal z6d.xe (.one .ret z5x.xe))
theorem zbw : z3f.OK := XS.or_ok (z0a z6e) (XS.or_ok (z0a z6d) (XS.one_ok (z0a z5x)))
def za4 : Shp := ⟨114, 0, [(3, .pt 0 r0 []), (8, .wn 1 .str)], [.var 71 (.ag [.wn 2 c1, .d c2, .d (.int .i64), .d c3, .d (.int .i64), .d .bool]), .row 9 .str, .row 86 c1]⟩
def zab : Shp := ⟨114, 0, [(2, .d .bool)], []⟩
def z1x : XS := .or (.exit 0) za4.xe (.one .ret zab.xe)
theorem zg2 : z1x.OK := XS.or_ok (z0a za4) (XS.one_ok (z0a zab))
def z1s : Shp := ⟨114, 0, [(3, .pt 0 r0 []), (5, .pt 1 r6 []), (8, .wn 2 .str), (38, .d c11), (39, .d (.int .i64)), (40, .d (.int .i64))], [.var 71 (.ag [.wn 3 c1, .d c2, .d (.int .i64), .d c3, .d (.int .i64), .d .bool]), .var 75 (.ag [.pt 0 r0 [], .d c4, .d (.sl (.int .u8)), .d (.int .i64), .d .bool]), .row 9 .str, .row 86 c1]⟩
abbrev z5w := (List T4) × Int × Int × (List T0) × Int × T1 × Int × Bool × T2 × (List Int) × Int × Bool × (List (List Int)) × (List (List Int))
abbrev zau := ((List T0) × Int × T1 × Int × Bool × (List (List Int)) × (List (List Int))) ⊕ (Bool)
def z1u (t38 : List T4) (t39 : Int) (t40 : Int) (d : List T0) (d2 : Int) (d3 : T1) (d4 : Int) (d5 : Bool) (j : T2) (j2 : List Int) (j3 : Int) (j4 : Bool) (want : List (List Int)) (d6 : List (List Int)) : Option (z5w ⊕ zau) :=
 bif ltI t40 t39 then
 (idxI t38 t40).bind fun x =>
 (show Option (((List T4) × Int × Int × (List (List Int)) × Bool × Bool × (List T0) × Int × T1 × Int × Bool × (List (List Int)) × (List (List Int))) ⊕ ((List T4) × Int × Int × (List T0) × Int × T1 × Int × Bool × T2 × (List Int) × Int × Bool × (List (List Int)) × (List (List Int))) ⊕ (Bool)) from
 bif eqI (Int.tmod (WU64 (x.1)) 5) 0 then
 bif Nat.beq (List.length d6) (List.length d6) then
 (z5i x.2.1 j j2 j3 j4 d d2 d3 d4 d5 d6).bind fun r =>
 bif eqI r.1 0 then
 (z6q x.2.1).bind fun r2 =>
 bif Nat.beq (List.length want) (List.length want) then
 winK r2 0 (List.length r2) fun w =>
 appG (List.length want) (List.length w) 16 fun _ =>
 bif Nat.beq (List.length (want ++ w)) (List.length (want ++ w)) then
 bif Nat.beq (List.length r.2.2.2.2.2.2.2.2.2.2) (List.length r.2.2.2.2.2.2.2.2.2.2) then
 some (.inr (.inl (t38, t39, t40, r.2.2.2.2.2.1, r.2.2.2.2.2.2.1, r.2.2.2.2.2.2.2.1, r.2.2.2.2.2.2.2.2.1, r.2.2.2.2.2.2.2.2.2.1, r.2.1, r.2.2.1, r.2.2.2.1, r.2.2.2.2.1, want ++ w, r.2.2.2.2.2.2.2.2.2.2)))
 else none
 else none
 else none
 else
 bif neI r.1 5 then
 some (.inr (.inr false))
 else
 bif Nat.beq (List.length want) (List.length want) then
 bif Nat.beq (List.length r.2.2.2.2.2.2.2.2.2.2) (List.length r.2.2.2.2.2.2.2.2.2.2) then
 some (.inr (.inl (t38, t39, t40, r.2.2.2.2.2.1, r.2.2.2.2.2.2.1, r.2.2.2.2.2.2.2.1, r.2.2.2.2.2.2.2.2.1, r.2.2.2.2.2.2.2.2.2.1, r.2.1, r.2.2.1, r.2.2.2.1, r.2.2.2.2.1, want, r.2.2.2.2.2.2.2.2.2.2)))
 else none
 else none
 else none
 else
 bif eqI (Int.tmod (WU64 (x.1)) 5) 1 then
 bif Nat.beq (List.length d6) (List.length d6) then
 (z7k x.2.1 j j2 j3 j4 d d2 d3 d4 d5 d6).bind fun r3 =>
 bif eqI r3.1 0 then
 (z6q x.2.1).bind fun r4 =>
 bif Nat.beq (List.length r4) (List.length r4) then
 bif Nat.beq (List.length r3.2.2.2.2.2.2.2.2.2.2) (List.length r3.2.2.2.2.2.2.2.2.2.2) then
 some (.inr (.inl (t38, t39, t40, r3.2.2.2.2.2.1, r3.2.2.2.2.2.2.1, r3.2.2.2.2.2.2.2.1, r3.2.2.2.2.2.2.2.2.1, r3.2.2.2.2.2.2.2.2.2.1, r3.2.1, r3.2.2.1, r3.2.2.2.1, r3.2.2.2.2.1, r4, r3.2.2.2.2.2.2.2.2.2.2)))
 else none
 else none
 else
 bif neI r3.1 5 then
 some (.inr (.inr false))
 else
 bif Nat.beq (List.length want) (List.length want) then
 bif Nat.beq (List.length r3.2.2.2.2.2.2.2.2.2.2) (List.length r3.2.2.2.2.2.2.2.2.2.2) then
 some (.inr (.inl (t38, t39, t40, r3.2.2.2.2.2.1, r3.2.2.2.2.2.2.1, r3.2.2.2.2.2.2.2.1, r3.2.2.2.2.2.2.2.2.1, r3.2.2.2.2.2.2.2.2.2.1, r3.2.1, r3.2.2.1, r3.2.2.2.1, r3.2.2.2.2.1, want, r3.2.2.2.2.2.2.2.2.2.2)))
 else none
 else none
 else none
 else
 (show Option (((List (List Int)) × Int × (List T4) × Int × Int × (List T0) × Int × T1 × Int × Bool × (List (List Int)) × (List (List Int))) ⊕ (Int × (List T4) × Int × Int × (List T0) × Int × T1 × Int × Bool × T2 × (List Int) × Int × Bool × (List (List Int)) × (List (List Int)) × (List (List Int)))) from
 bif Nat.beq (List.length d6) (List.length d6) then
 (z2u d d2 d3 d4 d5 d6).bind fun r5 =>
 Sum.elim (fun y =>
 bif Nat.beq (List.length want) (List.length want) then
 bif Nat.beq (List.length y.2.2.2.2.2.2.2) (List.length y.2.2.2.2.2.2.2) then
 some (.inl (y.1, y.2.1, t38, t39, t40, y.2.2.1, y.2.2.2.1, y.2.2.2.2.1, y.2.2.2.2.2.1, y.2.2.2.2.2.2.1, want, y.2.2.2.2.2.2.2))
 else none
 else none) (fun y2 =>
 bif Nat.beq (List.length y2.2.2.2.2.2.2.2.2.2.2.1) (List.length y2.2.2.2.2.2.2.2.2.2.2.1) then
 bif Nat.beq (List.length want) (List.length want) then
 bif Nat.beq (List.length y2.2.2.2.2.2.2.2.2.2.2.2) (List.length y2.2.2.2.2.2.2.2.2.2.2.2) then
 some (.inr (y2.1, t38, t39, t40, y2.2.1, y2.2.2.1, y2.2.2.2.1, y2.2.2.2.2.1, y2.2.2.2.2.2.1, y2.2.2.2.2.2.2.1, y2.2.2.2.2.2.2.2.1, y2.2.2.2.2.2.2.2.2.1, y2.2.2.2.2.2.2.2.2.2.1, y2.2.2.2.2.2.2.2.2.2.2.1, want, y2.2.2.2.2.2.2.2.2.2.2.2))
 else none
 else none
 else none) r5
 else none).bind fun j5 =>
 Sum.elim (fun y3 =>
 bif neI y3.2.1 0 then
 some (.inr (.inr false))
 else
 winK y3.2.2.2.2.2.2.2.2.2.2.1 0 (List.length y3.2.2.2.2.2.2.2.2.2.2.1) fun w2 =>
 (z5v y3.1 w2).bind fun r6 =>
 bif !r6 then
 some (.inr (.inr false))
 else
 bif Nat.beq (List.length y3.2.2.2.2.2.2.2.2.2.2.1) (List.length y3.2.2.2.2.2.2.2.2.2.2.1) then
 bif Nat.beq (List.length y3.2.2.2.2.2.2.2.2.2.2.1) (List.length y3.2.2.2.2.2.2.2.2.2.2.1) then
 bif Nat.beq (List.length y3.2.2.2.2.2.2.2.2.2.2.2) (List.length y3.2.2.2.2.2.2.2.2.2.2.2) then
 some (.inl (y3.2.2.1, y3.2.2.2.1, y3.2.2.2.2.1, y3.1, r6, !r6, y3.2.2.2.2.2.1, y3.2.2.2.2.2.2.1, y3.2.2.2.2.2.2.2.1, y3.2.2.2.2.2.2.2.2.1, y3.2.2.2.2.2.2.2.2.2.1, y3.2.2.2.2.2.2.2.2.2.2.1, y3.2.2.2.2.2.2.2.2.2.2.2))
 else none
 else none
 else none) (fun y4 =>
 bif neI y4.1 0 then
 some (.inr (.inr false))
 else
 winK y4.2.2.2.2.2.2.2.2.2.2.2.2.2.1 0 (List.length y4.2.2.2.2.2.2.2.2.2.2.2.2.2.1) fun w3 =>
 winK y4.2.2.2.2.2.2.2.2.2.2.2.2.2.2.1 0 (List.length y4.2.2.2.2.2.2.2.2.2.2.2.2.2.2.1) fun w4 =>
 (z5v w3 w4).bind fun r7 =>
 bif !r7 then
 some (.inr (.inr false))
 else
 bif Nat.beq (List.length y4.2.2.2.2.2.2.2.2.2.2.2.2.2.2.1) (List.length y4.2.2.2.2.2.2.2.2.2.2.2.2.2.2.1) then
 bif Nat.beq (List.length y4.2.2.2.2.2.2.2.2.2.2.2.2.2.2.2) (List.length y4.2.2.2.2.2.2.2.2.2.2.2.2.2.2.2) then
 some (.inr (.inl (y4.2.1, y4.2.2.1, y4.2.2.2.1, y4.2.2.2.2.1, y4.2.2.2.2.2.1, y4.2.2.2.2.2.2.1, y4.2.2.2.2.2.2.2.1, y4.2.2.2.2.2.2.2.2.1, y4.2.2.2.2.2.2.2.2.2.1, y4.2.2.2.2.2.2.2.2.2.2.1, y4.2.2.2.2.2.2.2.2.2.2.2.1, y4.2.2.2.2.2.2.2.2.2.2.2.2.1, y4.2.2.2.2.2.2.2.2.2.2.2.2.2.2.1, y4.2.2.2.2.2.2.2.2.2.2.2.2.2.2.2)))
 else none
 else none) j5).bind fun j6 =>
 Sum.elim (fun y5 =>
 (za6).bind fun r8 =>
 z0f (List.length y5.2.2.2.2.2.2.2.2.2.2.2.1) (
 bif neI r8 (List.length y5.2.2.2.2.2.2.2.2.2.2.2.1 : Nat) then
 some (.inr (.inr false))
 else
 winK y5.2.2.2.2.2.2.2.2.2.2.2.2 0 (List.length y5.2.2.2.2.2.2.2.2.2.2.2.2) fun w5 =>
 (z5f (w5, y5.2.2.2.2.2.2.1, y5.2.2.2.2.2.2.2.1, y5.2.2.2.2.2.2.2.2.1, y5.2.2.2.2.2.2.2.2.2.1, y5.2.2.2.2.2.2.2.2.2.2.1)).bind fun r9 =>
 bif neI r9 0 then
 some (.inr (.inr false))
 else
 none)) (fun y6 =>
 Sum.elim (fun y7 =>
 winK y7.2.2.2.2.2.2.2.2.2.2.2.2.2 0 (List.length y7.2.2.2.2.2.2.2.2.2.2.2.2.2) fun w6 =>
 (z7w (w6, y7.2.2.2.1, y7.2.2.2.2.1, y7.2.2.2.2.2.1, y7.2.2.2.2.2.2.1, y7.2.2.2.2.2.2.2.1) y7.2.2.2.2.2.2.2.2.1 y7.2.2.2.2.2.2.2.2.2.1 y7.2.2.2.2.2.2.2.2.2.2.1 y7.2.2.2.2.2.2.2.2.2.2.2.1).bind fun r10 =>
 z0f (List.length y7.2.2.2.2.2.2.2.2.2.2.2.2.1) (
 bif neI r10 (List.length y7.2.2.2.2.2.2.2.2.2.2.2.2.1 : Nat) then
 some (.inr (.inr false))
 else
 winK y7.2.2.2.2.2.2.2.2.2.2.2.2.2 0 (List.length y7.2.2.2.2.2.2.2.2.2.2.2.2.2) fun w7 =>
 (z5f (w7, y7.2.2.2.1, y7.2.2.2.2.1, y7.2.2.2.2.2.1, y7.2.2.2.2.2.2.1, y7.2.2.2.2.2.2.2.1)).bind fun r11 =>
 bif neI r11 0 then
 some (.inr (.inr false))
 else
 bif Nat.beq (List.length y7.2.2.2.2.2.2.2.2.2.2.2.2.1) (List.length y7.2.2.2.2.2.2.2.2.2.2.2.2.1) then
 bif Nat.beq (List.length y7.2.2.2.2.2.2.2.2.2.2.2.2.2) (List.length y7.2.2.2.2.2.2.2.2.2.2.2.2.2) then
 some (.inl (y7.1, y7.2.1, W64 (y7.2.2.1 + 1), y7.2.2.2.1, y7.2.2.2.2.1, y7.2.2.2.2.2.1, y7.2.2.2.2.2.2.1, y7.2.2.2.2.2.2.2.1, y7.2.2.2.2.2.2.2.2.1, y7.2.2.2.2.2.2.2.2.2.1, y7.2.2.2.2.2.2.2.2.2.2.1, y7.2.2.2.2.2.2.2.2.2.2.2.1, y7.2.2.2.2.2.2.2.2.2.2.2.2.1, y7.2.2.2.2.2.2.2.2.2.2.2.2.2))
 else none
 else none)) (fun y8 =>
 some (.inr (.inr y8))) y6) j6
 else
 bif Nat.beq (List.length want) (List.length want) then
 bif Nat.beq (List.length d6) (List.length d6) then
 some (.inr (.inl (d, d2, d3, d4, d5, want, d6)))
 else none
 else none
def z1h (s : z5w) : Option (z5w ⊕ zau) := z1u s.1 s.2.1 s.2.2.1 s.2.2.2.1 s.2.2.2.2.1 s.2.2.2.2.2.1 s.2.2.2.2.2.2.1 s.2.2.2.2.2.2.2.1 s.2.2.2.2.2.2.2.2.1 s.2.2.2.2.2.2.2.2.2.1 s.2.2.2.2.2.2.2.2.2.2.1 s.2.2.2.2.2.2.2.2.2.2.2.1 s.2.2.2.2.2.2.2.2.2.2.2.2.1 s.2.2.2.2.2.2.2.2.2.2.2.2.2
theorem zg8 : SoundD Try.prog (.loop (subC (bodyC Try.f4) [1, 1, 1, 1, 1, 1, 0, 1, 0, 0])) (loopD z1s.xe z1x (loopC z1h)) :=
 z1f (S := z1s.xe) (X := z1x) z9p (h := (.two .no (.two .no (.two (.two .no (.join (altX z0t.fit (fun _ => z0k) (altX z1n.fit (fun _ => z0m) (altX z6p.fit (fun _ => z1c) (fun _ => z3f)))) (.two .no (.two .no (.two .no (.two .no (.two .no (.join (altX z0x.fit (fun _ => z0c) (fun _ => z0q)) .no .no)))))) .no)) .no)))) (z0e [.xs (altX z0t.fit (fun _ => z0k) (altX z1n.fit (fun _ => z0m) (altX z6p.fit (fun _ => z1c) (fun _ => z3f)))), .xs (altX z0x.fit (fun _ => z0c) (fun _ => z0q))] (by kernel_rfl) ⟨(zej (z1p z1m) (zej (z1p z2s) (zej (z1p z5m) (z1p zbw)))), (zej (z1p z0w) (z1p z3e)), trivial⟩) (z0a z1s) zg2 z1h (fun s => by kernel_rfl)
def znc : Shp := ⟨1, 0, [(0, .d .bool)], []⟩
def zqe : XS := .one .ret znc.xe
theorem zyt : zqe.OK := XS.one_ok (z0a znc)
def zki (script : List T4) : Option ((Bool)) :=
 (zij).bind fun r =>
 bif !r then
 (zij).bind fun r2 =>
 some r2
 else
 (zvi 6 script).bind fun r3 =>
 bif !r3 then
 (zij).bind fun r4 =>
 some r4
 else
 (show Option (((List T4)) ⊕ ((List T4) × (List T0) × Int × T1 × Int × Bool × (List (List Int)))) from
 (zg7 60).bind fun r5 =>
 Sum.elim (fun y =>
 some (.inl script)) (fun y2 =>
 bif Nat.beq (List.length y2.2.2.2.2.2.2) (List.length y2.2.2.2.2.2.2) then
 some (.inr (script, y2.2.1, y2.2.2.1, y2.2.2.2.1, y2.2.2.2.2.1, y2.2.2.2.2.2.1, y2.2.2.2.2.2.2))
 else none) r5).bind fun j =>
 Sum.elim (fun y3 =>
 (show Option (((List T4) × (List (List Int)) × Int) ⊕ ((List T4) × Int × T2 × (List Int) × Int × Bool × (List (List Int)))) from
 (za8).bind fun r6 =>
 Sum.elim (fun y5 =>
 some (.inl (y3, y5.1, y5.2))) (fun y6 =>
 bif Nat.beq (List.length y6.2.2.2.2.2) (List.length y6.2.2.2.2.2) then
 some (.inr (y3, y6.1, y6.2.1, y6.2.2.1, y6.2.2.2.1, y6.2.2.2.2.1, y6.2.2.2.2.2))
 else none) r6).bind fun j2 =>
 Sum.elim (fun y7 =>
 bif neI y7.2.2 0 then
 some false
 else
 z0f (List.length y7.2.1) (
 bif neI (List.length y7.2.1 : Nat) 0 then
 some false
 else
 z0f (List.length y7.1) (
 bif Nat.beq 0 (List.length ([] : List (List Int))) then
 (loopC z2h (y7.1, (List.length y7.1 : Nat), 0, ([] : List (List Int)))).bind fun o =>
 Sum.elim (fun y9 =>
 (show Option (((List (List Int)) × Int × (List (List Int)))) from
 (za8).bind fun r7 =>
 Sum.elim (fun y11 =>
 bif Nat.beq (List.length y9) (List.length y9) then
 some (y11.1, y11.2, y9)
 else none) (fun y12 =>
 winK y12.2.2.2.2.2 0 (List.length y12.2.2.2.2.2) fun w =>
 bif Nat.beq (List.length y9) (List.length y9) then
 some (w, y12.1, y9)
 else none) r7).bind fun j3 =>
 bif eqI j3.2.1 0 then
 winK j3.2.2 0 (List.length j3.2.2) fun w2 =>
 (z5v j3.1 w2).bind fun r8 =>
 some r8
 else
 some false) (fun y10 =>
 some y10) o
 else none))) (fun y8 =>
 bif neI y8.2.1 0 then
 some false
 else
 z0f (List.length y8.2.2.2.2.2.2) (
 bif neI (List.length y8.2.2.2.2.2.2 : Nat) 0 then
 some false
 else
 z0f (List.length y8.1) (
 bif Nat.beq 0 (List.length ([] : List (List Int))) then
 (loopC z1z (y8.1, (List.length y8.1 : Nat), 0, y8.2.2.1, y8.2.2.2.1, y8.2.2.2.2.1, y8.2.2.2.2.2.1, ([] : List (List Int)))).bind fun o2 =>
 Sum.elim (fun y13 =>
 (show Option (((List (List Int)) × Int × (List (List Int)))) from
 (za8).bind fun r9 =>
 Sum.elim (fun y15 =>
 bif Nat.beq (List.length y13) (List.length y13) then
 some (y15.1, y15.2, y13)
 else none) (fun y16 =>
 winK y16.2.2.2.2.2 0 (List.length y16.2.2.2.2.2) fun w3 =>
 bif Nat.beq (List.length y13) (List.length y13) then
 some (w3, y16.1, y13)
 else none) r9).bind fun j4 =>
 bif eqI j4.2.1 0 then
 winK j4.2.2 0 (List.length j4.2.2) fun w4 =>
 (z5v j4.1 w4).bind fun r10 =>
 some r10
 else
 some false) (fun y14 =>
 some y14) o2
 else none))) j2) (fun y4 =>
 (show Option (((List T4) × (List (List Int)) × Int × (List T0) × Int × T1 × Int × Bool × (List (List Int))) ⊕ ((List T4) × Int × (List T0) × Int × T1 × Int × Bool × T2 × (List Int) × Int × Bool × (List (List Int)) × (List (List Int)))) from
 bif Nat.beq (List.length y4.2.2.2.2.2.2) (List.length y4.2.2.2.2.2.2) then
 (z2u y4.2.1 y4.2.2.1 y4.2.2.2.1 y4.2.2.2.2.1 y4.2.2.2.2.2.1 y4.2.2.2.2.2.2).bind fun r11 =>
 Sum.elim (fun y17 =>
 bif Nat.beq (List.length y17.2.2.2.2.2.2.2) (List.length y17.2.2.2.2.2.2.2) then
 some (.inl (y4.1, y17.1, y17.2.1, y17.2.2.1, y17.2.2.2.1, y17.2.2.2.2.1, y17.2.2.2.2.2.1, y17.2.2.2.2.2.2.1, y17.2.2.2.2.2.2.2))
 else none) (fun y18 =>
 bif Nat.beq (List.length y18.2.2.2.2.2.2.2.2.2.2.1) (List.length y18.2.2.2.2.2.2.2.2.2.2.1) then
 bif Nat.beq (List.length y18.2.2.2.2.2.2.2.2.2.2.2) (List.length y18.2.2.2.2.2.2.2.2.2.2.2) then
 some (.inr (y4.1, y18.1, y18.2.1, y18.2.2.1, y18.2.2.2.1, y18.2.2.2.2.1, y18.2.2.2.2.2.1, y18.2.2.2.2.2.2.1, y18.2.2.2.2.2.2.2.1, y18.2.2.2.2.2.2.2.2.1, y18.2.2.2.2.2.2.2.2.2.1, y18.2.2.2.2.2.2.2.2.2.2.1, y18.2.2.2.2.2.2.2.2.2.2.2))
 else none
 else none) r11
 else none).bind fun j5 =>
 Sum.elim (fun y19 =>
 bif neI y19.2.2.1 0 then
 some false
 else
 z0f (List.length y19.2.1) (
 bif neI (List.length y19.2.1 : Nat) 0 then
 some false
 else
 z0f (List.length y19.1) (
 bif Nat.beq 0 (List.length ([] : List (List Int))) then
 bif Nat.beq (List.length y19.2.2.2.2.2.2.2.2) (List.length y19.2.2.2.2.2.2.2.2) then
 (loopC z1r (y19.1, (List.length y19.1 : Nat), 0, y19.2.2.2.1, y19.2.2.2.2.1, y19.2.2.2.2.2.1, y19.2.2.2.2.2.2.1, y19.2.2.2.2.2.2.2.1, ([] : List (List Int)), y19.2.2.2.2.2.2.2.2)).bind fun o3 =>
 Sum.elim (fun y21 =>
 (show Option (((List (List Int)) × Int × (List (List Int)))) from
 bif Nat.beq (List.length y21.2.2.2.2.2.2) (List.length y21.2.2.2.2.2.2) then
 (z2u y21.1 y21.2.1 y21.2.2.1 y21.2.2.2.1 y21.2.2.2.2.1 y21.2.2.2.2.2.2).bind fun r12 =>
 Sum.elim (fun y23 =>
 bif Nat.beq (List.length y21.2.2.2.2.2.1) (List.length y21.2.2.2.2.2.1) then
 some (y23.1, y23.2.1, y21.2.2.2.2.2.1)
 else none) (fun y24 =>
 winK y24.2.2.2.2.2.2.2.2.2.2.1 0 (List.length y24.2.2.2.2.2.2.2.2.2.2.1) fun w5 =>
 bif Nat.beq (List.length y21.2.2.2.2.2.1) (List.length y21.2.2.2.2.2.1) then
 some (w5, y24.1, y21.2.2.2.2.2.1)
 else none) r12
 else none).bind fun j6 =>
 bif eqI j6.2.1 0 then
 winK j6.2.2 0 (List.length j6.2.2) fun w6 =>
 (z5v j6.1 w6).bind fun r13 =>
 some r13
 else
 some false) (fun y22 =>
 some y22) o3
 else none
 else none))) (fun y20 =>
 bif neI y20.2.1 0 then
 some false
 else
 z0f (List.length y20.2.2.2.2.2.2.2.2.2.2.2.1) (
 bif neI (List.length y20.2.2.2.2.2.2.2.2.2.2.2.1 : Nat) 0 then
 some false
 else
 z0f (List.length y20.1) (
 bif Nat.beq 0 (List.length ([] : List (List Int))) then
 bif Nat.beq (List.length y20.2.2.2.2.2.2.2.2.2.2.2.2) (List.length y20.2.2.2.2.2.2.2.2.2.2.2.2) then
 (loopC z1h (y20.1, (List.length y20.1 : Nat), 0, y20.2.2.1, y20.2.2.2.1, y20.2.2.2.2.1, y20.2.2.2.2.2.1, y20.2.2.2.2.2.2.1, y20.2.2.2.2.2.2.2.1, y20.2.2.2.2.2.2.2.2.1, y20.2.2.2.2.2.2.2.2.2.1, y20.2.2.2.2.2.2.2.2.2.2.1, ([] : List (List Int)), y20.2.2.2.2.2.2.2.2.2.2.2.2)).bind fun o4 =>
 Sum.elim (fun y25 =>
 (show Option (((List (List Int)) × Int × (List (List Int)))) from
 bif Nat.beq (List.length y25.2.2.2.2.2.2) (List.length y25.2.2.2.2.2.2) then
 (z2u y25.1 y25.2.1 y25.2.2.1 y25.2.2.2.1 y25.2.2.2.2.1 y25.2.2.2.2.2.2).bind fun r14 =>
 Sum.elim (fun y27 =>
 bif Nat.beq (List.length y25.2.2.2.2.2.1) (List.length y25.2.2.2.2.2.1) then
 some (y27.1, y27.2.1, y25.2.2.2.2.2.1)
 else none) (fun y28 =>
 winK y28.2.2.2.2.2.2.2.2.2.2.1 0 (List.length y28.2.2.2.2.2.2.2.2.2.2.1) fun w7 =>
 bif Nat.beq (List.length y25.2.2.2.2.2.1) (List.length y25.2.2.2.2.2.1) then
 some (w7, y28.1, y25.2.2.2.2.2.1)
 else none) r14
 else none).bind fun j7 =>
 bif eqI j7.2.1 0 then
 winK j7.2.2 0 (List.length j7.2.2) fun w8 =>
 (z5v j7.1 w8).bind fun r15 =>
 some r15
 else
 some false) (fun y26 =>
 some y26) o4
 else none
 else none))) j5) j
def z14o : Sig := ⟨4, [.d c11], [], 0, zqe⟩
def zp2 (x : (List T4)) : Option ((Bool)) := zki x
theorem z12d : FnOK Try.prog z14o zp2 :=
 fn_ok z9p (h := (.two .no (.two .no (.join (fun _ => zea) .no (.join (altX zi3.fit (fun _ => zd7) (fun _ => zc0)) .no (.two .no (.two .no (.two (.two .no (.over (altD z1e.fit (loopD z1e.xe z2g (loopC z2h)) (altD z0z.fit (loopD z0z.xe z1q (loopC z1z)) (altD z0y.fit (loopD z0y.xe z1w (loopC z1r)) (loopD z1s.xe z1x (loopC z1h))))))) (.join (altX zcz.fit (fun _ => z9k) (fun _ => z8j)) .no .no))))))))) Try.func4 (z0e [.xs (fun _ => zea), .xs (altX zi3.fit (fun _ => zd7) (fun _ => zc0)), .den (.loop (subC (bodyC Try.f4) [1, 1, 1, 1, 1, 1, 0, 1, 0, 0])) (altD z1e.fit (loopD z1e.xe z2g (loopC z2h)) (altD z0z.fit (loopD z0z.xe z1q (loopC z1z)) (altD z0y.fit (loopD z0y.xe z1w (loopC z1r)) (loopD z1s.xe z1x (loopC z1h))))), .xs (altX zcz.fit (fun _ => z9k) (fun _ => z8j))] (by kernel_rfl) ⟨(z1p zuc), (zej (z1p zry) (z1p zq8)), (z1ef zhi (z1ef zgf (z1ef zgr zg8))), (zej (z1p zkv) (z1p zim)), trivial⟩) (by kernel_rfl) zyt (fun x => by kernel_rfl)
end Go.Proofs.Ytpfjfldagldgnaa
set_option linter.unusedVariables false
set_option linter.unusedSimpArgs false
namespace Go.Proofs.Ytpfjfldagldgnaa
open Go.Tm Go.Ab
abbrev FnT := Int × List (List Int) × (Int × Int × Int) × List (List Int)
def FinI (i : Nat) (a : FnT) : Prop := Jn (3 + 100 * i) (-1) ([], 0, 0) a.1 a.2.1 a.2.2.1 a.2.2.2 ∧ a.2.2.1.1 ≤ 1 + (i : Int) ∧ a.2.1.length = 60 ∧ a.2.2.2.length ≤ 6 * i
theorem z1o5 (s : List (List Int)) (c : List Int × Int × Int) (a b : Int) (o : Bool) : z5f (s, [], a, c, b, o) = some 0 := by
 unfold z5f
 rw [z0p (by simp)]; rfl
theorem z1pi (x : T3) (t : Int × Int × Int) (d : List Int) (n : Int) (b : Bool) : z7w x t d n b = some n := rfl
theorem Jn.le {k k' : Nat} {left : Int} {c : List Int × Int × Int} {nn : Int} {s : List (List Int)} {t : Int × Int × Int} {rs : List (List Int)} (h : Jn k left c nn s t rs) (hk : k ≤ k') (h2 : k' ≤ 100000) : Jn k' left c nn s t rs := ⟨h.dv.mono (by omega) (by omega), h.lie, h.st, h.recs, h.s⟩
theorem z1km {script : List OpT} (hl : script.length ≤ 30) (hf : ∀ o, o ∈ script → fitO o) (hb : ∀ o, o ∈ script → ∀ y, y ∈ o.2.1 → isB y) :
   Ok (loopC z1h (script, ((script.length : Nat) : Int), 0, [], -1, ([], 0, 0), 2, false, (1, 0, 0), [], 0, false, [], new1 60))
     fun r => ∃ k nn s t rs, r = .inl ([], -1, ([], 0, 0), nn, false, rs, s) ∧ Jn k (-1) ([], 0, 0) nn s t rs ∧ rs.length ≤ 1000 := by
 have okl : ∀ o, o ∈ script → OkL o.2.1 ∧ ¬ longL o.2.1 := fun o ho => ⟨z1s2 (hf o ho).1 (hf o ho).2.2 (hb o ho), z1nz (hf o ho).2.2⟩
 refine z1c9 script.length (fun i (a : FnT) => (script, ((script.length : Nat) : Int), (i : Int), [], -1, ([], 0, 0), a.1, false, a.2.2.1, lieS a.2.2.2, ((a.2.2.2.length : Nat) : Int), false, a.2.2.2, a.2.1)) FinI (2, new1 60, (1, 0, 0), []) rfl ⟨z1ke 60 (by omega), by simp, zoq 60, by simp⟩ ?_ ?_
 · rintro ⟨nn, s, t, rs⟩ ⟨hj, ht, hs, hr⟩
   simp only at hj ht hs hr
   show Ok (z1u script ((script.length : Nat) : Int) ((script.length : Nat) : Int) [] (-1) ([], 0, 0) nn false t (lieS rs) ((rs.length : Nat) : Int) false rs s) _
   unfold z1u
   rw [ltI_f (Int.lt_irrefl _)]
   exact zbh (qb (qb (z3v (zm0 ⟨_, nn, s, t, rs, rfl, hj, by omega⟩))))
 · rintro i ⟨nn, s, t, rs⟩ hi ⟨hj, ht, hs, hr⟩
   simp only at hj ht hs hr
   have hof := hf _ (List.getElem_mem hi)
   obtain ⟨hl1, hl2⟩ := okl _ (List.getElem_mem hi)
   show Ok (z1u script ((script.length : Nat) : Int) (i : Int) [] (-1) ([], 0, 0) nn false t (lieS rs) ((rs.length : Nat) : Int) false rs s) _
   unfold z1u
   rw [ltI_t (by omega)]
   refine zrt (qx hi ?_)
   generalize script[i] = o at *
   have ho6 := hof.1
   have same : FinI (i + 1) (nn, s, t, rs) := ⟨hj.le (by omega) (by omega), by simp only; omega, hs, by simp only; omega⟩
   refine z18t (R := fun r => ∃ a : FnT, r = .inr (.inl (script, ((script.length : Nat) : Int), (i : Int), [], -1, ([], 0, 0), a.1, false, a.2.2.1, lieS a.2.2.2, ((a.2.2.2.length : Nat) : Int), false, a.2.2.2, a.2.1)) ∧ FinI (i + 1) a) ?_ ?_
   · refine z1my (fun h0 => ?_) fun h0 => z1my (fun h1 => ?_) fun h1 => ?_
     · refine qb ?_
       by_cases hne : o.2.1 = []
       · rw [hne, z1pz hj (by omega)]
         refine ok_eq rfl ?_
         rw [z13b]
         refine zrt ?_
         rw [z1bh (by simp)]
         refine ok_eq rfl (qb (z10v (qa (qb (qb (z3v ⟨(nn, s, t, rs), ?_, same⟩))))))
         simp only [List.append_nil]
       · obtain ⟨q, e, hout⟩ := z1jo hj (by omega) (by omega) hl1 hl2 hne
         rw [e]
         rcases hout with ⟨rfl, h1⟩ | ⟨left', nn', s', rfl, h1, hj', h4⟩ | ⟨h0, _⟩
         · refine ok_eq rfl ?_
           simp only [flatJ]
           rw [eqI_f (by decide), neI_f (by decide)]
           exact zbh (zbh (qb (qb (z3v ⟨(nn, s, t, rs), rfl, same⟩))))
         · have hl' := h4 (by omega)
           subst hl'
           refine ok_eq rfl ?_
           simp only [flatJ]
           rw [z13b]
           refine zrt ?_
           rw [z1bh (by omega)]
           refine ok_eq rfl (qb (z10v (qa (qb (qb (z3v ⟨(nn', s', (t.1 + 1, t.2.1, ((lieS (rs ++ o.2.1)).length : Int)), rs ++ o.2.1), rfl, ?_⟩))))))
           refine ⟨hj'.le (by omega) (by omega), by simp only; omega, by simp only; omega, ?_⟩
           simp only [List.length_append]; omega
         · omega
     · refine qb ?_
       obtain ⟨q, e, hout⟩ := z1jf hj (by omega) (by omega) hl1 hl2
       rw [e]
       rcases hout with ⟨rfl, h1⟩ | ⟨left', nn', s', rfl, h1, hj', h4⟩ | ⟨h0, _⟩
       · refine ok_eq rfl ?_
         simp only [flatJ]
         rw [eqI_f (by decide), neI_f (by decide)]
         exact zbh (zbh (qb (qb (z3v ⟨(nn, s, t, rs), rfl, same⟩))))
       · have hl' := h4 (by omega)
         subst hl'
         refine ok_eq rfl ?_
         simp only [flatJ]
         rw [z13b]
         refine zrt ?_
         rw [z1bh (by omega)]
         refine ok_eq rfl (qb (qb (z3v ⟨(nn', s', (t.1 + 1, 1 - t.2.1, ((lieS o.2.1).length : Int)), o.2.1), rfl, ?_⟩)))
         exact ⟨hj'.le (by omega) (by omega), by simp only; omega, by simp only; omega, by simp only; omega⟩
       · omega
     · refine ok_eq (a := .inr (0, script, ((script.length : Nat) : Int), (i : Int), [], -1, ([], 0, 0), nn, false, t, lieS rs, ((rs.length : Nat) : Int), false, rs, rs, s)) ?_ ?_
       · rw [beq_self, z1an hj.dv hj.lie hj.st.fnd hj.recs]
         simp only [cond_true, Option.bind_some, Sum.elim_inr, beq_self]
       · refine z1cf ?_
         simp only
         rw [z14d]
         refine zbh (z10v (z10v ?_))
         rw [z1fe (by omega)]
         exact ok_eq rfl (zbh (qb (qb (z3v ⟨(nn, s, t, rs), rfl, same⟩))))
   · rintro r ⟨⟨nn', s', t', rs'⟩, rfl, hj', ht', hs', hr'⟩
     simp only at hj' ht' hs' hr'
     refine z1cf (z1ia (z10v ?_))
     refine ok_eq (z1pi _ _ _ _ _) (z1h5 (by simp only; omega) ?_)
     rw [z14d]
     refine zbh (z10v (ok_eq (z1o5 _ _ _ _ _) ?_))
     rw [z14d]
     refine zbh (qb (qb (z3v (z18o ⟨(nn', s', t', rs'), ?_, hj', ht', hs', hr'⟩))))
     rw [zbf (by omega)]
theorem z1lj (script : List OpT) (hb : ∀ o, o ∈ script → ∀ y, y ∈ o.2.1 → isB y) (hl : script.length ≤ 9223372036854775807) (hs : ∀ o, o ∈ script → o.2.1.length ≤ 9223372036854775807 ∧ o.2.2.2.1.length ≤ 9223372036854775807 ∧ ∀ y, y ∈ o.2.1 → y.length ≤ 9223372036854775807) : zki script = some true := by
 unfold zki
 rw [z1q8]
 simp only [Option.bind_some, Bool.not_true, cond_false]
 obtain ⟨b, hb2, hfit⟩ := z1ru 6 script hl hs
 rw [hb2]
 simp only [Option.bind_some]
 cases b with
 | false => rfl
 | true =>
   obtain ⟨_, _, f0, hf⟩ := hfit rfl
   rw [z1nb 60 (by omega)]
   simp only [Option.bind_some, Bool.not_true, cond_false, Sum.elim_inr, beq_self, cond_true]
   rw [show (60 : Int).toNat = 60 from rfl, z1in 60 (by omega)]
   simp only [Option.bind_some, Bool.not_true, cond_false, Sum.elim_inr, beq_self, cond_true, z14d, z2t]
   rw [z0p (by simp), neI_f (by simp)]
   simp only [cond_false]
   rw [z0p (by omega)]
   obtain ⟨r, hr, k, nn, s, t, rs, rfl, hj, hn⟩ := z1km f0 hf hb
   rw [hr]
   simp only [Option.bind_some, Sum.elim_inl, Sum.elim_inr, beq_self, cond_true]
   rw [z1an hj.dv hj.lie hj.st.fnd hj.recs]
   simp only [Option.bind_some, Sum.elim_inl, Sum.elim_inr, beq_self, cond_true, z2t, z13b]
   rw [z1fe (by omega)]
   rfl
end Go.Proofs.Ytpfjfldagldgnaa