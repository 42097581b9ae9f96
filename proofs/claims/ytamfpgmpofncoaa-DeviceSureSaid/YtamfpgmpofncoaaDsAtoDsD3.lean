import Derived.Test.YtamfpgmpofncoaaTm19to26
import Derived.Test.YtamfpgmpofncoaaTm27to34
import Derived.Test.YtamfpgmpofncoaaProg
open List renaming length → kA, replicate → kD, length_replicate → kE, getElem?_eq_getElem → kG, getElem_mem → kH, drop_eq_nil_of_le → kI, drop_eq_getElem_cons → kL, replicate_succ → kN, getElem?_append_right → kO, length_set → kP, mem_singleton → kQ, length_append → kU, getElem?_set_self → kV, take_of_length_le → kW, length_take → kY, set_append_right → k0, getElem?_set_ne → k9, replicate_succ' → ka, drop_replicate → kb, drop_zero → kc, set_cons_zero → ke, append_assoc → kg, mem_append → ki, mem_cons → km
open Nat renaming beq → kB, zero_lt_succ → kJ, lt_of_sub_eq_succ → kK, sub_self → kR, ble → kh, ble_eq → kj
open Option renaming bind_some → kC, getD_some → kZ, bind → kq
open Int renaming tmod → kF, toNat_natCast → kM, reduceEq → k8, le_refl → ko
open Bool renaming not_true → kS, false_eq_true → kT
set_option maxRecDepth 100000
set_option linter.unusedVariables false
noncomputable section
set_option linter.unusedSimpArgs false
namespace Go.Proofs.Ytamfpgmpofncoaa
open Go.Tm Go.Ab
abbrev T0 := Int × (List Int)
abbrev T1 := (List Int) × Int × Int
abbrev T2 := (List (List Int)) × (List T0) × Int × T1 × Int × Bool
abbrev T3 := Int × Int × Int × (List Int) × Bool × T1
def r0 : Rt := .one (.st (.cons .leaf (.cons .leaf (.cons .leaf (.cons (.st (.cons .leaf (.cons .leaf (.one .leaf)))) (.cons .leaf (.one .leaf)))))))
def c1 : U := (.arr 256 (.int .u8))
def c2 : U := (.sl (.st (.cons (.int .i64) (.one (.arr 256 (.int .u8))))))
def c3 : U := (.st (.cons (.sl (.int .i64)) (.cons (.int .i64) (.one (.int .i64)))))
def c4 : U := (.st (.cons (.sl (.arr 256 (.int .u8))) (.cons (.sl (.st (.cons (.int .i64) (.one (.arr 256 (.int .u8)))))) (.cons (.int .i64) (.cons (.st (.cons (.sl (.int .i64)) (.cons (.int .i64) (.one (.int .i64))))) (.cons (.int .i64) (.one .bool)))))))
def c5 : U := (.st (.cons (.int .i64) (.one (.arr 256 (.int .u8)))))
def r6 : Rt := .one (.st (.cons .leaf (.cons .leaf (.one .leaf))))
def r7 : Rt := .one (.st (.cons .leaf (.one (.arr 256 .leaf))))
def c8 : U := (.sl (.st (.cons (.int .i64) (.cons (.int .i64) (.cons (.int .u8) (.cons .str (.cons .bool (.one (.st (.cons (.sl (.int .i64)) (.cons (.int .i64) (.one (.int .i64)))))))))))))
def r9 : Rt := .one (.st (.cons .leaf (.cons .leaf (.cons .leaf (.cons .leaf (.cons .leaf (.one .leaf)))))))
def zh8 : Env := ⟨[], [], []⟩
theorem zep : EnvsOK Try.prog zh8 := ⟨xY _, xt _, xp _⟩
def z76 : Shp := ⟨1, 0, [(0, .tu [.pt 0 r0 [], .d (.int .i64)])], [.var 61 (.ag [.wn 1 c1, .d c2, .d (.int .i64), .d c3, .d (.int .i64), .d .bool]), .row 64 c1]⟩
def z9f : XS := .one .ret z76.xe
theorem zdy : z9f.OK := XS.one_ok (zr z76)
def z0u (sectors : Int) : Option ((Int × (List T0) × Int × T1 × Int × Bool × (List (List Int)))) :=
 bif ltI sectors 1 then
 none
 else
 bif ltI 4096 sectors then
 none
 else
 zji sectors 256 (
 bif kB sectors.toNat (kA (kD sectors.toNat (kD 256 (0 : Int)))) then
 some (0, [], (-1), ([], 0, 0), 0, false, kD sectors.toNat (kD 256 (0 : Int)))
 else none)
def z4c : Sig := ⟨11, [.d (.int .i64)], [], 0, z9f⟩
def z3k (x : Int) : Option ((Int × (List T0) × Int × T1 × Int × Bool × (List (List Int)))) := z0u x
theorem z81 : FnOK Try.prog z4c z3k :=
 jH zep (h := .no) Try.func11 (yB [] (by kernel_rfl) trivial) (by kernel_rfl) zdy (fun x => by kernel_rfl)
def zkv : Env := ⟨[], [], []⟩
theorem z9r : EnvsOK Try.prog zkv := ⟨xY _, xt _, xp _⟩
def z15 : Shp := ⟨22, 0, [(1, .d .str), (5, .wn 0 (.int .u8))], [.row 5 (.int .u8)]⟩
def qv : XS := .one (.exit 0) z15.xe
theorem z6b : qv.OK := XS.one_ok (zr z15)
def qu : Shp := ⟨22, 0, [(0, .d (.int .u8)), (1, .d .str), (5, .wn 0 (.int .u8)), (9, .d (.int .i64)), (10, .d (.int .i64))], [.row 5 (.int .u8)]⟩
abbrev vz := Int × (List Int) × Int × Int × (List Int)
abbrev z2c := ((List Int) × (List Int))
def vy (c : Int) (t1 : List Int) (t9 : Int) (t10 : Int) (b : List Int) : Option (vz ⊕ z2c) :=
 bif ltI t10 t9 then
 bif inI t10 (kA b) then
 (b[t10.toNat]?).bind fun _x =>
 bif kB (kA b) (kA (b.set t10.toNat c)) then
 some (.inl (c, t1, t9, W64 (t10 + 1), b.set t10.toNat c))
 else none
 else none
 else
 bif kB (kA b) (kA b) then
 some (.inr (t1, b))
 else none
def yb (s : vz) : Option (vz ⊕ z2c) := vy s.1 s.2.1 s.2.2.1 s.2.2.2.1 s.2.2.2.2
theorem z7d : SoundD Try.prog (.loop (qi (qj Try.f12) [1, 1, 0, 1, 0, 0])) (yy qu.xe qv (zn yb)) :=
 qz (S := qu.xe) (X := qv) z9r (h := .no) (yB [] (by kernel_rfl) trivial) (zr qu) z6b yb (fun s => by kernel_rfl)
def z9q : Shp := ⟨1, 0, [(0, .d (.sl (.int .u8)))], []⟩
def zcj : XS := .one .ret z9q.xe
theorem zfz : zcj.OK := XS.one_ok (zr z9q)
def z1m (c : Int) (t1 : List Int) : Option (((List Int))) :=
 bif kB 256 (kA (kD 256 (0 : Int))) then
 (zn yb (c, t1, 256, 0, kD 256 (0 : Int))).bind fun o =>
 bif kh (kA o.2) (kA o.2) then
 ja (qC o.2 0 (kA o.2) o.1) 0 (kA o.2) fun w =>
 some w
 else none
 else none
def zci : Sig := ⟨12, [.d (.int .u8), .d .str], [], 0, zcj⟩
def zbg (x : Int × (List Int)) : Option (((List Int))) := z1m x.1 x.2
theorem zj0 : FnOK Try.prog zci zbg :=
 jH z9r (h := (.two .no (.two .no (.two (.two .no (.over (yy qu.xe qv (zn yb)))) .no)))) Try.func12 (yB [.den (.loop (qi (qj Try.f12) [1, 1, 0, 1, 0, 0])) (yy qu.xe qv (zn yb))] (by kernel_rfl) ⟨z7d, trivial⟩) (by kernel_rfl) zfz (fun x => by kernel_rfl)
def zbl : Env := ⟨[], [], []⟩
theorem z9d : EnvsOK Try.prog zbl := ⟨xY _, xt _, xp _⟩
def z33 : Shp := ⟨1, 0, [(0, .d .bool)], []⟩
def z41 : XS := .one .ret z33.xe
theorem z8r : z41.OK := XS.one_ok (zr z33)
def yX (d : T2) : Option ((Bool)) :=
 some d.2.2.2.2.2
def jb : Sig := ⟨20, [.rf (.d c4)], [], 0, z41⟩
def qR (x : T2) : Option ((Bool)) := yX x
theorem jE : FnOK Try.prog jb qR :=
 jH z9d (h := .no) Try.func20 (yB [] (by kernel_rfl) trivial) (by kernel_rfl) z8r (fun x => by kernel_rfl)
def zbm : Env := ⟨[(z0w jb qR)], [], []⟩
theorem z9e : EnvsOK Try.prog zbm := ⟨qD (jc jE) (xY _), xt _, xp _⟩
def z35 : Shp := ⟨1, 0, [(0, .d (.int .i64))], []⟩
def z42 : XS := .one .ret z35.xe
theorem z8u : z42.OK := XS.one_ok (zr z35)
def qX (d : T2) (i : Int) : Option ((Int)) :=
 (yX d).bind fun r =>
 bif r then
 some 6
 else
 bif ltI i 0 then
 some 2
 else
 zT (kA d.1) (
 bif leI (kA d.1 : Nat) i then
 some 2
 else
 some 0)
def jX : Sig := ⟨26, [.rf (.d c4), .d (.int .i64)], [], 0, z42⟩
def jG (x : T2 × Int) : Option ((Int)) := qX x.1 x.2
theorem vX : FnOK Try.prog jX jG :=
 jH z9e (h := .no) Try.func26 (yB [] (by kernel_rfl) trivial) (by kernel_rfl) z8u (fun x => by kernel_rfl)
def zj7 : Env := ⟨[], [], []⟩
theorem zgo : EnvsOK Try.prog zj7 := ⟨xY _, xt _, xp _⟩
def z8i : Shp := ⟨1, 0, [(0, .fs c5)], []⟩
def zbk : XS := .one .ret z8i.xe
theorem zf4 : zbk.OK := XS.one_ok (zr z8i)
def z2h (t0 : List T0) : Option (((List T0))) :=
 zT (kA t0) (
 zT (kA t0) (
 bif xG 0 (kA t0 : Nat) (kA t0) && eqI (kA t0 : Nat) (kA t0 : Nat) then
 some (vN t0 0 (kA t0 : Nat))
 else none))
def z5u : Sig := ⟨27, [.d c2], [], 0, zbk⟩
def z4p (x : (List T0)) : Option (((List T0))) := z2h x
theorem z9z : FnOK Try.prog z5u z4p :=
 jH zgo (h := .no) Try.func27 (yB [] (by kernel_rfl) trivial) (by kernel_rfl) zf4 (fun x => by kernel_rfl)
def zht : Env := ⟨[], [], []⟩
theorem z7p : EnvsOK Try.prog zht := ⟨xY _, xt _, xp _⟩
def z1b : Shp := ⟨19, 0, [], []⟩
def z1c : Shp := ⟨19, 0, [(4, .d (.int .i64))], []⟩
def qx : XS := .or (.exit 0) z1b.xe (.one .ret z1c.xe)
theorem z6f : qx.OK := XS.or_ok (zr z1b) (XS.one_ok (zr z1c))
def qw : Shp := ⟨19, 0, [(0, .d (.sl (.int .i64))), (1, .d (.int .i64)), (7, .d (.int .i64)), (8, .d (.int .i64))], []⟩
abbrev vD := (List Int) × Int × Int × Int
abbrev z2i := (Unit) ⊕ (Int)
def jj (t0 : List Int) (v : Int) (t7 : Int) (t8 : Int) : Option (vD ⊕ z2i) :=
 bif ltI t8 t7 then
 (vv t0 t8).bind fun x =>
 bif eqI v x then
 some (.inr (.inr t8))
 else
 some (.inl (t0, v, t7, W64 (t8 + 1)))
 else
 some (.inr (.inl ()))
def yz (s : vD) : Option (vD ⊕ z2i) := jj s.1 s.2.1 s.2.2.1 s.2.2.2
theorem z7q : SoundD Try.prog (.loop (qi (qj Try.f36) [1, 0, 1, 0, 0])) (yy qw.xe qx (zn yz)) :=
 qz (S := qw.xe) (X := qx) z7p (h := .no) (yB [] (by kernel_rfl) trivial) (zr qw) z6f yz (fun s => by kernel_rfl)
def z7o : Shp := ⟨1, 0, [(0, .d (.int .i64))], []⟩
def za1 : XS := .one .ret z7o.xe
theorem ze1 : za1.OK := XS.one_ok (zr z7o)
def z7n (t0 : List Int) (v : Int) : Option ((Int)) :=
 zT (kA t0) (
 (zn yz (t0, v, (kA t0 : Nat), 0)).bind fun o =>
 Sum.elim (fun y =>
 some (-1)) (fun y2 =>
 some y2) o)
def za0 : Sig := ⟨36, [.d (.sl (.int .i64)), .d (.int .i64)], [], 0, za1⟩
def z8j (x : (List Int) × Int) : Option ((Int)) := z7n x.1 x.2
theorem zgp : FnOK Try.prog za0 z8j :=
 jH z7p (h := (.two .no (.two (.two .no (.over (yy qw.xe qx (zn yz)))) .no))) Try.func36 (yB [.den (.loop (qi (qj Try.f36) [1, 0, 1, 0, 0])) (yy qw.xe qx (zn yz))] (by kernel_rfl) ⟨z7q, trivial⟩) (by kernel_rfl) ze1 (fun x => by kernel_rfl)
def ze0 : Env := ⟨[(z0w za0 z8j)], [], []⟩
theorem zbo : EnvsOK Try.prog ze0 := ⟨qD (jc zgp) (xY _), xt _, xp _⟩
def z45 : Shp := ⟨1, 0, [(0, .d .bool)], []⟩
def z5y : XS := .one .ret z45.xe
theorem zb6 : z5y.OK := XS.one_ok (zr z45)
def z0i (t0 : List Int) (v : Int) : Option ((Bool)) :=
 (z7n t0 v).bind fun r =>
 some (leI 0 r)
def z5x : Sig := ⟨29, [.d (.sl (.int .i64)), .d (.int .i64)], [], 0, z5y⟩
def z5i (x : (List Int) × Int) : Option ((Bool)) := z0i x.1 x.2
theorem zd7 : FnOK Try.prog z5x z5i :=
 jH zbo (h := .no) Try.func29 (yB [] (by kernel_rfl) trivial) (by kernel_rfl) zb6 (fun x => by kernel_rfl)
def z9b : Env := ⟨[(z0w jb qR), (z0w z5x z5i)], [], []⟩
theorem z1w : EnvsOK Try.prog z9b := ⟨qD (jc jE) (qD (jc zd7) (xY _)), xt _, xp _⟩
def qc : Shp := ⟨53, 1, [(0, .pt 0 r0 []), (3, .pt 1 r6 []), (5, .pt 2 r7 []), (6, .d (.int .i64)), (12, .d c2), (13, .d (.int .i64)), (14, .d (.int .i64))], [.var 61 (.ag [.wn 3 c1, .d c2, .d (.int .i64), .d c3, .d (.int .i64), .d .bool]), .var 25 (.d c3), .var 66 (.d c5), .row 64 c1]⟩
def yU : XS := .one .normal qc.xe
theorem jY : yU.OK := XS.one_ok (zr qc)
def jO : Shp := ⟨53, 1, [(0, .pt 0 r0 [])], [.var 61 (.ag [.wn 1 c1, .d c2, .d (.int .i64), .d c3, .d (.int .i64), .d .bool]), .row 64 c1]⟩
def yK : XS := .one (.exit 0) jO.xe
theorem z24 : yK.OK := XS.one_ok (zr jO)
def yJ : Shp := ⟨53, 1, [(0, .pt 0 r0 []), (3, .pt 1 r6 []), (12, .d c2), (13, .d (.int .i64)), (14, .d (.int .i64))], [.var 61 (.ag [.wn 2 c1, .d c2, .d (.int .i64), .d c3, .d (.int .i64), .d .bool]), .var 25 (.d c3), .row 64 c1]⟩
abbrev qM := (List T0) × Int × Int × (List T0) × Int × T1 × Int × Bool × T1 × (List (List Int))
abbrev jZ := ((List T0) × Int × T1 × Int × Bool × (List (List Int)))
def yL (t12 : List T0) (t13 : Int) (t14 : Int) (d : List T0) (d2 : Int) (d3 : T1) (d4 : Int) (d5 : Bool) (c : T1) (d6 : List (List Int)) : Option (qM ⊕ jZ) :=
 bif ltI t14 t13 then
 (vv t12 t14).bind fun x =>
 (show Option ((Int × (List T0) × Int × Int × (List T0) × Int × T1 × Int × Bool × T1 × T0 × (List (List Int)))) from
 (z0i c.1 t14).bind fun r =>
 bif r then
 bif kB (kA d6) (kA d6) then
 some (256, t12, t13, t14, d, d2, d3, d4, d5, c, x, d6)
 else none
 else
 bif eqI c.2.1 t14 then
 bif kB (kA d6) (kA d6) then
 some (zhh 0 (z2v c.2.2 256), t12, t13, t14, d, d2, d3, d4, d5, c, x, d6)
 else none
 else
 bif kB (kA d6) (kA d6) then
 some (0, t12, t13, t14, d, d2, d3, d4, d5, c, x, d6)
 else none).bind fun j =>
 bif inI j.2.2.2.2.2.2.2.2.2.2.1.1 (kA j.2.2.2.2.2.2.2.2.2.2.2) then
 (j.2.2.2.2.2.2.2.2.2.2.2[j.2.2.2.2.2.2.2.2.2.2.1.1.toNat]?).bind fun x2 =>
 bif xG 0 j.1 256 then
 ja j.2.2.2.2.2.2.2.2.2.2.1.2 0 256 fun w =>
 (j.2.2.2.2.2.2.2.2.2.2.2[j.2.2.2.2.2.2.2.2.2.2.1.1.toNat]?).bind fun x3 =>
 bif kh j.1.toNat (kA x3) then
 (j.2.2.2.2.2.2.2.2.2.2.2[j.2.2.2.2.2.2.2.2.2.2.1.1.toNat]?).bind fun _x =>
 bif kB (kA j.2.2.2.2.2.2.2.2.2.2.2) (kA (j.2.2.2.2.2.2.2.2.2.2.2.set j.2.2.2.2.2.2.2.2.2.2.1.1.toNat (qC x3 0 j.1.toNat w))) then
 some (.inl (j.2.1, j.2.2.1, W64 (j.2.2.2.1 + 1), j.2.2.2.2.1, j.2.2.2.2.2.1, j.2.2.2.2.2.2.1, j.2.2.2.2.2.2.2.1, j.2.2.2.2.2.2.2.2.1, j.2.2.2.2.2.2.2.2.2.1, j.2.2.2.2.2.2.2.2.2.2.2.set j.2.2.2.2.2.2.2.2.2.2.1.1.toNat (qC x3 0 j.1.toNat w)))
 else none
 else none
 else none
 else none
 else
 bif kB (kA d6) (kA d6) then
 some (.inr (d, d2, d3, d4, d5, d6))
 else none
def zF (s : qM) : Option (qM ⊕ jZ) := yL s.1 s.2.1 s.2.2.1 s.2.2.2.1 s.2.2.2.2.1 s.2.2.2.2.2.1 s.2.2.2.2.2.2.1 s.2.2.2.2.2.2.2.1 s.2.2.2.2.2.2.2.2.1 s.2.2.2.2.2.2.2.2.2
theorem z26 : SoundD Try.prog (.loop (qi (qj Try.f15) [1, 1, 0, 1, 0, 0])) (yy yJ.xe yK (zn zF)) :=
 qz (S := yJ.xe) (X := yK) z1w (h := (.two .no (.two .no (.two (.two .no (.two .no (.join (fun _ => yU) .no (.reg [] [11, 0])))) .no)))) (yB [.xs (fun _ => yU)] (by kernel_rfl) ⟨(zdq jY), trivial⟩) (zr yJ) z24 zF (fun s => by kernel_rfl)
def z1v : Shp := ⟨1, 1, [(0, .tu [])], [.var 61 (.ag [.wn 1 c1, .d c2, .d (.int .i64), .d c3, .d (.int .i64), .d .bool]), .row 64 c1]⟩
def z30 : XS := .one .ret z1v.xe
theorem z71 : z30.OK := XS.one_ok (zr z1v)
def yW (c : T1) (d : List T0) (d2 : Int) (d3 : T1) (d4 : Int) (d5 : Bool) (d6 : List (List Int)) : Option (((List T0) × Int × T1 × Int × Bool × (List (List Int)))) :=
 ja d6 0 (kA d6) fun w =>
 (yX (w, d, d2, d3, d4, d5)).bind fun r =>
 bif r then
 bif kB (kA d6) (kA d6) then
 some (d, d2, d3, d4, d5, d6)
 else none
 else
 zT (kA d) (
 bif kB (kA d6) (kA d6) then
 (zn zF (d, (kA d : Nat), 0, d, d2, d3, d4, d5, c, d6)).bind fun o =>
 bif kB (kA o.2.2.2.2.2) (kA o.2.2.2.2.2) then
 some ([], (-1), o.2.2.1, o.2.2.2.1, true, o.2.2.2.2.2)
 else none
 else none)
def js : Sig := ⟨15, [.pt 0 r0 [], .d c3], [.var 61 (.ag [.wn 1 c1, .d c2, .d (.int .i64), .d c3, .d (.int .i64), .d .bool]), .row 64 c1], 1, z30⟩
def jg (x : T1 × (List T0) × Int × T1 × Int × Bool × (List (List Int))) : Option (((List T0) × Int × T1 × Int × Bool × (List (List Int)))) := yW x.1 x.2.1 x.2.2.1 x.2.2.2.1 x.2.2.2.2.1 x.2.2.2.2.2.1 x.2.2.2.2.2.2
theorem vt : FnOK Try.prog js jg :=
 jH z1w (h := (.two .no (.two .no (.two (.two .no (.over (yy yJ.xe yK (zn zF)))) .no)))) Try.func15 (yB [.den (.loop (qi (qj Try.f15) [1, 1, 0, 1, 0, 0])) (yy yJ.xe yK (zn zF))] (by kernel_rfl) ⟨z26, trivial⟩) (by kernel_rfl) z71 (fun x => by kernel_rfl)
def z75 : Env := ⟨[], [(vY js jg)], []⟩
theorem z5o : EnvsOK Try.prog z75 := ⟨xY _, xk (qI vt) (xt _), xp _⟩
def z09 : Shp := ⟨1, 1, [(0, .d (.int .i64))], [.var 61 (.ag [.wn 1 c1, .d c2, .d (.int .i64), .d c3, .d (.int .i64), .d .bool]), .row 64 c1]⟩
def z0t : XS := .one .ret z09.xe
theorem z57 : z0t.OK := XS.one_ok (zr z09)
def xv (d : List T0) (d2 : Int) (d3 : T1) (d4 : Int) (d5 : Bool) (d6 : List (List Int)) : Option ((Int × (List T0) × Int × T1 × Int × Bool × (List (List Int)))) :=
 bif ltI d2 0 then
 bif kB (kA d6) (kA d6) then
 some (0, d, d2, d3, W64 (d4 + 1), d5, d6)
 else none
 else
 bif ltI (W64 (d2 - 1)) 0 then
 bif kB (kA d6) (kA d6) then
 (yW d3 d (W64 (d2 - 1)) d3 (W64 (d4 + 1)) d5 d6).bind fun r =>
 bif kB (kA r.2.2.2.2.2) (kA r.2.2.2.2.2) then
 some (6, r.1, r.2.1, r.2.2.1, r.2.2.2.1, r.2.2.2.2.1, r.2.2.2.2.2)
 else none
 else none
 else
 bif kB (kA d6) (kA d6) then
 some (0, d, W64 (d2 - 1), d3, W64 (d4 + 1), d5, d6)
 else none
def qS : Sig := ⟨28, [.pt 0 r0 []], [.var 61 (.ag [.wn 1 c1, .d c2, .d (.int .i64), .d c3, .d (.int .i64), .d .bool]), .row 64 c1], 1, z0t⟩
def qL (x : (List T0) × Int × T1 × Int × Bool × (List (List Int))) : Option ((Int × (List T0) × Int × T1 × Int × Bool × (List (List Int)))) := xv x.1 x.2.1 x.2.2.1 x.2.2.2.1 x.2.2.2.2.1 x.2.2.2.2.2
theorem jF : FnOK Try.prog qS qL :=
 jH z5o (h := .no) Try.func28 (yB [] (by kernel_rfl) trivial) (by kernel_rfl) z57 (fun x => by kernel_rfl)
def z7w : Env := ⟨[(z0w jX jG), (z0w z5u z4p)], [(vY qS qL)], []⟩
theorem z64 : EnvsOK Try.prog z7w := ⟨qD (jc vX) (qD (jc z9z) (xY _)), xk (qI jF) (xt _), xp _⟩
def z0f : Shp := ⟨1, 1, [(0, .d (.int .i64))], [.var 61 (.ag [.wn 1 c1, .d c2, .d (.int .i64), .d c3, .d (.int .i64), .d .bool]), .row 64 c1]⟩
def z20 : XS := .one .ret z0f.xe
theorem z5m : z20.OK := XS.one_ok (zr z0f)
def xd (i : Int) (b : List Int) (d : List T0) (d2 : Int) (d3 : T1) (d4 : Int) (d5 : Bool) (d6 : List (List Int)) : Option ((Int × (List T0) × Int × T1 × Int × Bool × (List (List Int)))) :=
 ja d6 0 (kA d6) fun w =>
 (qX (w, d, d2, d3, d4, d5) i).bind fun r =>
 bif neI r 0 then
 bif kB (kA d6) (kA d6) then
 some (r, d, d2, d3, d4, d5, d6)
 else none
 else
 zT (kA b) (
 bif neI (kA b : Nat) 256 then
 bif kB (kA d6) (kA d6) then
 some (1, d, d2, d3, d4, d5, d6)
 else none
 else
 bif kh 256 (kA (kD 256 (0 : Int))) then
 (z2h d).bind fun r2 =>
 z3h (kA r2) (kA (([(i, qC (kD 256 (0 : Int)) 0 256 b)] : List T0))) 264 fun _ =>
 bif kB (kA d6) (kA d6) then
 (xv (r2 ++ (([(i, qC (kD 256 (0 : Int)) 0 256 b)] : List T0))) d2 d3 d4 d5 d6).bind fun r3 =>
 bif kB (kA r3.2.2.2.2.2.2) (kA r3.2.2.2.2.2.2) then
 some (r3.1, r3.2.1, r3.2.2.1, r3.2.2.2.1, r3.2.2.2.2.1, r3.2.2.2.2.2.1, r3.2.2.2.2.2.2)
 else none
 else none
 else none)
def z1z : Sig := ⟨13, [.pt 0 r0 [], .d (.int .i64), .d (.sl (.int .u8))], [.var 61 (.ag [.wn 1 c1, .d c2, .d (.int .i64), .d c3, .d (.int .i64), .d .bool]), .row 64 c1], 1, z20⟩
def z0r (x : Int × (List Int) × (List T0) × Int × T1 × Int × Bool × (List (List Int))) : Option ((Int × (List T0) × Int × T1 × Int × Bool × (List (List Int)))) := xd x.1 x.2.1 x.2.2.1 x.2.2.2.1 x.2.2.2.2.1 x.2.2.2.2.2.1 x.2.2.2.2.2.2.1 x.2.2.2.2.2.2.2
theorem z73 : FnOK Try.prog z1z z0r :=
 jH z64 (h := .no) Try.func13 (yB [] (by kernel_rfl) trivial) (by kernel_rfl) z5m (fun x => by kernel_rfl)
def z62 : Env := ⟨[(z0w jb qR)], [(vY qS qL)], []⟩
theorem vQ : EnvsOK Try.prog z62 := ⟨qD (jc jE) (xY _), xk (qI jF) (xt _), xp _⟩
def qY : Shp := ⟨35, 1, [(0, .pt 0 r0 [])], [.var 61 (.ag [.wn 1 c1, .d c2, .d (.int .i64), .d c3, .d (.int .i64), .d .bool]), .row 64 c1]⟩
def zW : XS := .one (.exit 0) qY.xe
theorem vV : zW.OK := XS.one_ok (zr qY)
def zV : Shp := ⟨35, 1, [(0, .pt 0 r0 []), (16, .d c2), (17, .d (.int .i64)), (18, .d (.int .i64))], [.var 61 (.ag [.wn 1 c1, .d c2, .d (.int .i64), .d c3, .d (.int .i64), .d .bool]), .row 64 c1]⟩
abbrev xI := (List T0) × Int × Int × (List T0) × Int × T1 × Int × Bool × (List (List Int))
abbrev jf := ((List T0) × Int × T1 × Int × Bool × (List (List Int)))
def zX (t16 : List T0) (t17 : Int) (t18 : Int) (d : List T0) (d2 : Int) (d3 : T1) (d4 : Int) (d5 : Bool) (d6 : List (List Int)) : Option (xI ⊕ jf) :=
 bif ltI t18 t17 then
 (vv t16 t18).bind fun x =>
 bif inI x.1 (kA d6) then
 (d6[x.1.toNat]?).bind fun _x =>
 bif kB (kA d6) (kA (d6.set x.1.toNat x.2)) then
 some (.inl (t16, t17, W64 (t18 + 1), d, d2, d3, d4, d5, d6.set x.1.toNat x.2))
 else none
 else none
 else
 bif kB (kA d6) (kA d6) then
 some (.inr (d, d2, d3, d4, d5, d6))
 else none
def zq (s : xI) : Option (xI ⊕ jf) := zX s.1 s.2.1 s.2.2.1 s.2.2.2.1 s.2.2.2.2.1 s.2.2.2.2.2.1 s.2.2.2.2.2.2.1 s.2.2.2.2.2.2.2.1 s.2.2.2.2.2.2.2.2
theorem z07 : SoundD Try.prog (.loop (qi (qj Try.f14) [1, 1, 1, 0, 1, 0, 0])) (yy zV.xe zW (zn zq)) :=
 qz (S := zV.xe) (X := zW) vQ (h := .no) (yB [] (by kernel_rfl) trivial) (zr zV) vV zq (fun s => by kernel_rfl)
def vP : Shp := ⟨1, 1, [(0, .d (.int .i64))], [.var 61 (.ag [.wn 1 c1, .d c2, .d (.int .i64), .d c3, .d (.int .i64), .d .bool]), .row 64 c1]⟩
def z0e : XS := .one .ret vP.xe
theorem z4b : z0e.OK := XS.one_ok (zr vP)
def yM (d : List T0) (d2 : Int) (d3 : T1) (d4 : Int) (d5 : Bool) (d6 : List (List Int)) : Option ((Int × (List T0) × Int × T1 × Int × Bool × (List (List Int)))) :=
 ja d6 0 (kA d6) fun w =>
 (yX (w, d, d2, d3, d4, d5)).bind fun r =>
 bif r then
 bif kB (kA d6) (kA d6) then
 some (6, d, d2, d3, d4, d5, d6)
 else none
 else
 bif kB (kA d6) (kA d6) then
 (xv d d2 d3 d4 d5 d6).bind fun r2 =>
 bif neI r2.1 0 then
 bif kB (kA r2.2.2.2.2.2.2) (kA r2.2.2.2.2.2.2) then
 some (r2.1, r2.2.1, r2.2.2.1, r2.2.2.2.1, r2.2.2.2.2.1, r2.2.2.2.2.2.1, r2.2.2.2.2.2.2)
 else none
 else
 zT (kA r2.2.1) (
 bif kB (kA r2.2.2.2.2.2.2) (kA r2.2.2.2.2.2.2) then
 (zn zq (r2.2.1, (kA r2.2.1 : Nat), 0, r2.2.1, r2.2.2.1, r2.2.2.2.1, r2.2.2.2.2.1, r2.2.2.2.2.2.1, r2.2.2.2.2.2.2)).bind fun o =>
 bif kB (kA o.2.2.2.2.2) (kA o.2.2.2.2.2) then
 some (0, [], o.2.1, o.2.2.1, o.2.2.2.1, o.2.2.2.2.1, o.2.2.2.2.2)
 else none
 else none)
 else none
def jD : Sig := ⟨14, [.pt 0 r0 []], [.var 61 (.ag [.wn 1 c1, .d c2, .d (.int .i64), .d c3, .d (.int .i64), .d .bool]), .row 64 c1], 1, z0e⟩
def jx (x : (List T0) × Int × T1 × Int × Bool × (List (List Int))) : Option ((Int × (List T0) × Int × T1 × Int × Bool × (List (List Int)))) := yM x.1 x.2.1 x.2.2.1 x.2.2.2.1 x.2.2.2.2.1 x.2.2.2.2.2
theorem z08 : FnOK Try.prog jD jx :=
 jH vQ (h := (.two .no (.two .no (.two .no (.two (.two .no (.over (yy zV.xe zW (zn zq)))) .no))))) Try.func14 (yB [.den (.loop (qi (qj Try.f14) [1, 1, 1, 0, 1, 0, 0])) (yy zV.xe zW (zn zq))] (by kernel_rfl) ⟨z07, trivial⟩) (by kernel_rfl) z4b (fun x => by kernel_rfl)
def zaf : Env := ⟨[], [], []⟩
theorem z8s : EnvsOK Try.prog zaf := ⟨xY _, xt _, xp _⟩
def z28 : Shp := ⟨1, 1, [(0, .d .bool)], [.var 61 (.ag [.wn 1 c1, .d c2, .d (.int .i64), .d c3, .d (.int .i64), .d .bool]), .row 64 c1]⟩
def z3j : XS := .one .ret z28.xe
theorem z7v : z3j.OK := XS.one_ok (zr z28)
def qH (d : List T0) (d2 : Int) (d3 : T1) (d4 : Int) (d5 : Bool) (d6 : List (List Int)) : Option ((Bool × (List T0) × Int × T1 × Int × Bool × (List (List Int)))) :=
 bif !d5 then
 bif kB (kA d6) (kA d6) then
 some (false, d, d2, d3, d4, d5, d6)
 else none
 else
 bif kB (kA d6) (kA d6) then
 some (true, d, d2, d3, d4, false, d6)
 else none
def vW : Sig := ⟨16, [.pt 0 r0 []], [.var 61 (.ag [.wn 1 c1, .d c2, .d (.int .i64), .d c3, .d (.int .i64), .d .bool]), .row 64 c1], 1, z3j⟩
def vF (x : (List T0) × Int × T1 × Int × Bool × (List (List Int))) : Option ((Bool × (List T0) × Int × T1 × Int × Bool × (List (List Int)))) := qH x.1 x.2.1 x.2.2.1 x.2.2.2.1 x.2.2.2.2.1 x.2.2.2.2.2
theorem z34 : FnOK Try.prog vW vF :=
 jH z8s (h := .no) Try.func16 (yB [] (by kernel_rfl) trivial) (by kernel_rfl) z7v (fun x => by kernel_rfl)
def z8t : Env := ⟨[(z0w jX jG)], [], []⟩
theorem z0p : EnvsOK Try.prog z8t := ⟨qD (jc vX) (xY _), xt _, xp _⟩
def jl : Shp := ⟨40, 1, [(7, .pt 1 (.one (.arr 256 .leaf)) [])], [.var 61 (.ag [.wn 2 c1, .d c2, .d (.int .i64), .d c3, .d (.int .i64), .d .bool]), .var 64 (.d c1), .row 64 c1]⟩
def yp : XS := .one (.exit 0) jl.xe
theorem z0j : yp.OK := XS.one_ok (zr jl)
def yo : Shp := ⟨40, 1, [(1, .d (.int .i64)), (7, .pt 1 (.one (.arr 256 .leaf)) []), (26, .d c2), (27, .d (.int .i64)), (28, .d (.int .i64))], [.var 61 (.ag [.wn 2 c1, .d c2, .d (.int .i64), .d c3, .d (.int .i64), .d .bool]), .var 64 (.d c1), .row 64 c1]⟩
abbrev qh := Int × (List T0) × Int × Int × (List T0) × Int × T1 × Int × Bool × (List Int) × (List (List Int))
abbrev jz := ((List T0) × Int × T1 × Int × Bool × (List Int) × (List (List Int)))
def yq (i : Int) (t26 : List T0) (t27 : Int) (t28 : Int) (h : List T0) (h2 : Int) (h3 : T1) (h4 : Int) (h5 : Bool) (t7 : List Int) (h6 : List (List Int)) : Option (qh ⊕ jz) :=
 bif ltI t28 t27 then
 (vv t26 t28).bind fun x =>
 bif eqI x.1 i then
 bif kB (kA h6) (kA h6) then
 some (.inl (i, t26, t27, W64 (t28 + 1), h, h2, h3, h4, h5, x.2, h6))
 else none
 else
 bif kB (kA h6) (kA h6) then
 some (.inl (i, t26, t27, W64 (t28 + 1), h, h2, h3, h4, h5, t7, h6))
 else none
 else
 bif kB (kA h6) (kA h6) then
 some (.inr (h, h2, h3, h4, h5, t7, h6))
 else none
def zx (s : qh) : Option (qh ⊕ jz) := yq s.1 s.2.1 s.2.2.1 s.2.2.2.1 s.2.2.2.2.1 s.2.2.2.2.2.1 s.2.2.2.2.2.2.1 s.2.2.2.2.2.2.2.1 s.2.2.2.2.2.2.2.2.1 s.2.2.2.2.2.2.2.2.2.1 s.2.2.2.2.2.2.2.2.2.2
theorem z0q : SoundD Try.prog (.loop (qi (qj Try.f17) [1, 1, 1, 0, 1, 0, 0])) (yy yo.xe yp (zn zx)) :=
 qz (S := yo.xe) (X := yp) z0p (h := .no) (yB [] (by kernel_rfl) trivial) (zr yo) z0j zx (fun s => by kernel_rfl)
def z0o : Shp := ⟨1, 1, [(0, .tu [.wn 1 (.int .u8), .d (.int .i64)])], [.var 61 (.ag [.wn 2 c1, .d c2, .d (.int .i64), .d c3, .d (.int .i64), .d .bool]), .row 64 (.int .u8), .row 64 c1]⟩
def z29 : XS := .one .ret z0o.xe
theorem z63 : z29.OK := XS.one_ok (zr z0o)
def xq (i : Int) (d : List T0) (d2 : Int) (d3 : T1) (d4 : Int) (d5 : Bool) (d6 : List (List Int)) : Option ((Int × (List T0) × Int × T1 × Int × Bool × (List Int) × (List (List Int)))) :=
 ja d6 0 (kA d6) fun w =>
 (qX (w, d, d2, d3, d4, d5) i).bind fun r =>
 bif neI r 0 then
 bif kB 0 (kA ([] : List Int)) then
 bif kB (kA d6) (kA d6) then
 some (r, d, d2, d3, d4, d5, ([] : List Int), d6)
 else none
 else none
 else
 bif inI i (kA d6) then
 (d6[i.toNat]?).bind fun x =>
 zT (kA d) (
 bif kB (kA d6) (kA d6) then
 (zn zx (i, d, (kA d : Nat), 0, d, d2, d3, d4, d5, x, d6)).bind fun o =>
 bif kB 256 (kA o.2.2.2.2.2.1) then
 bif kB (kA o.2.2.2.2.2.2) (kA o.2.2.2.2.2.2) then
 some (0, o.1, o.2.1, o.2.2.1, o.2.2.2.1, o.2.2.2.2.1, o.2.2.2.2.2.1, o.2.2.2.2.2.2)
 else none
 else none
 else none)
 else none
def vu : Sig := ⟨17, [.pt 0 r0 [], .d (.int .i64)], [.var 61 (.ag [.wn 1 c1, .d c2, .d (.int .i64), .d c3, .d (.int .i64), .d .bool]), .row 64 c1], 1, z29⟩
def va (x : Int × (List T0) × Int × T1 × Int × Bool × (List (List Int))) : Option ((Int × (List T0) × Int × T1 × Int × Bool × (List Int) × (List (List Int)))) := xq x.1 x.2.1 x.2.2.1 x.2.2.2.1 x.2.2.2.2.1 x.2.2.2.2.2.1 x.2.2.2.2.2.2
theorem z1y : FnOK Try.prog vu va :=
 jH z0p (h := (.two .no (.two .no (.two .no (.two (.two .no (.over (yy yo.xe yp (zn zx)))) .no))))) Try.func17 (yB [.den (.loop (qi (qj Try.f17) [1, 1, 1, 0, 1, 0, 0])) (yy yo.xe yp (zn zx))] (by kernel_rfl) ⟨z0q, trivial⟩) (by kernel_rfl) z63 (fun x => by kernel_rfl)
def zj1 : Env := ⟨[(z0w zci zbg), (z0w jb qR)], [(vY z4c z3k), (vY z1z z0r), (vY jD jx), (vY js jg), (vY vW vF), (vY vu va)], []⟩
theorem zg0 : EnvsOK Try.prog zj1 := ⟨qD (jc zj0) (qD (jc jE) (xY _)), xk (qI z81) (xk (qI z73) (xk (qI z08) (xk (qI vt) (xk (qI z34) (xk (qI z1y) (xt _)))))), xp _⟩
def z8a : Shp := ⟨1, 0, [(0, .d .bool)], []⟩
def zbi : XS := .one .ret z8a.xe
theorem zew : zbi.OK := XS.one_ok (zr z8a)
def jP  : Option ((Bool)) :=
 (z0u 2).bind fun r =>
 bif neI r.1 0 then
 some false
 else
 (z1m 120 ([] : List Int)).bind fun r2 =>
 bif kB (kA r.2.2.2.2.2.2) (kA r.2.2.2.2.2.2) then
 (xd 1 r2 r.2.1 r.2.2.1 r.2.2.2.1 r.2.2.2.2.1 r.2.2.2.2.2.1 r.2.2.2.2.2.2).bind fun r3 =>
 bif neI r3.1 0 then
 some false
 else
 bif kB (kA r3.2.2.2.2.2.2) (kA r3.2.2.2.2.2.2) then
 (yM r3.2.1 r3.2.2.1 r3.2.2.2.1 r3.2.2.2.2.1 r3.2.2.2.2.2.1 r3.2.2.2.2.2.2).bind fun r4 =>
 bif neI r4.1 0 then
 some false
 else
 (z1m 121 ([] : List Int)).bind fun r5 =>
 bif kB (kA r4.2.2.2.2.2.2) (kA r4.2.2.2.2.2.2) then
 (xd 1 r5 r4.2.1 r4.2.2.1 r4.2.2.2.1 r4.2.2.2.2.1 r4.2.2.2.2.2.1 r4.2.2.2.2.2.2).bind fun r6 =>
 bif neI r6.1 0 then
 some false
 else
 bif kB (kA r6.2.2.2.2.2.2) (kA r6.2.2.2.2.2.2) then
 (yW ([], 0, 2) r6.2.1 r6.2.2.1 r6.2.2.2.1 r6.2.2.2.2.1 r6.2.2.2.2.2.1 r6.2.2.2.2.2.2).bind fun r7 =>
 ja r7.2.2.2.2.2 0 (kA r7.2.2.2.2.2) fun w =>
 (yX (w, r7.1, r7.2.1, r7.2.2.1, r7.2.2.2.1, r7.2.2.2.2.1)).bind fun r8 =>
 bif !r8 then
 some false
 else
 bif kB (kA r7.2.2.2.2.2) (kA r7.2.2.2.2.2) then
 (qH r7.1 r7.2.1 r7.2.2.1 r7.2.2.2.1 r7.2.2.2.2.1 r7.2.2.2.2.2).bind fun r9 =>
 bif !r9.1 then
 some false
 else
 bif kB (kA r9.2.2.2.2.2.2) (kA r9.2.2.2.2.2.2) then
 (xq 1 r9.2.1 r9.2.2.1 r9.2.2.2.1 r9.2.2.2.2.1 r9.2.2.2.2.2.1 r9.2.2.2.2.2.2).bind fun r10 =>
 bif eqI r10.1 0 then
 ja r10.2.2.2.2.2.2.1 0 (kA r10.2.2.2.2.2.2.1) fun w2 =>
 (z1m 120 ([121, 121] : List Int)).bind fun r11 =>
 some (eqS w2 r11)
 else
 some false
 else none
 else none
 else none
 else none
 else none
 else none
def zbh : Sig := ⟨9, [], [], 0, zbi⟩
def z9s (x : Unit) : Option ((Bool)) := jP 
theorem zhg : FnOK Try.prog zbh z9s :=
 jH zg0 (h := .no) Try.func9 (yB [] (by kernel_rfl) trivial) (by kernel_rfl) zew (fun x => by kernel_rfl)
def zku : Env := ⟨[], [], []⟩
theorem z9n : EnvsOK Try.prog zku := ⟨xY _, xt _, xp _⟩
def z11 : Shp := ⟨36, 0, [], []⟩
def z12 : Shp := ⟨36, 0, [(4, .d .bool)], []⟩
def qr : XS := .or (.exit 0) z11.xe (.one .ret z12.xe)
theorem z6a : qr.OK := XS.or_ok (zr z11) (XS.one_ok (zr z12))
def qq : Shp := ⟨36, 0, [(18, .d c8), (19, .d (.int .i64)), (20, .d (.int .i64))], []⟩
abbrev vx := (List T3) × Int × Int
abbrev z2b := (Unit) ⊕ (Bool)
def qt (t18 : List T3) (t19 : Int) (t20 : Int) : Option (vx ⊕ z2b) :=
 bif ltI t20 t19 then
 (vv t18 t20).bind fun x =>
 zT (kA x.2.2.2.1) (
 bif ltI 300 (kA x.2.2.2.1 : Nat) then
 some (.inr (.inr false))
 else
 zT (kA x.2.2.2.2.2.1) (
 bif ltI 70 (kA x.2.2.2.2.2.1 : Nat) then
 some (.inr (.inr false))
 else
 some (.inl (t18, t19, W64 (t20 + 1)))))
 else
 some (.inr (.inl ()))
def ya (s : vx) : Option (vx ⊕ z2b) := qt s.1 s.2.1 s.2.2
theorem z7a : SoundD Try.prog (.loop (qi (qj Try.f10) [1, 1, 0, 1, 0, 0])) (yy qq.xe qr (zn ya)) :=
 qz (S := qq.xe) (X := qr) z9n (h := .no) (yB [] (by kernel_rfl) trivial) (zr qq) z6a ya (fun s => by kernel_rfl)
def z9m : Shp := ⟨1, 0, [(0, .d .bool)], []⟩
def zch : XS := .one .ret z9m.xe
theorem zfx : zch.OK := XS.one_ok (zr z9m)
def z1l (sectors : Int) (script : List T3) : Option ((Bool)) :=
 bif ltI sectors 1 then
 some false
 else
 bif ltI 10 sectors then
 some false
 else
 zT (kA script) (
 bif ltI 60 (kA script : Nat) then
 some false
 else
 zT (kA script) (
 (zn ya (script, (kA script : Nat), 0)).bind fun o =>
 Sum.elim (fun y =>
 some true) (fun y2 =>
 some y2) o))
def zcg : Sig := ⟨10, [.d (.int .i64), .d c8], [], 0, zch⟩
def zbf (x : Int × (List T3)) : Option ((Bool)) := z1l x.1 x.2
theorem ziz : FnOK Try.prog zcg zbf :=
 jH z9n (h := (.two .no (.two .no (.two (.two .no (.over (yy qq.xe qr (zn ya)))) .no)))) Try.func10 (yB [.den (.loop (qi (qj Try.f10) [1, 1, 0, 1, 0, 0])) (yy qq.xe qr (zn ya))] (by kernel_rfl) ⟨z7a, trivial⟩) (by kernel_rfl) zfx (fun x => by kernel_rfl)
def z7x : Env := ⟨[(z0w jX jG), (z0w z5u z4p)], [(vY qS qL)], []⟩
theorem z65 : EnvsOK Try.prog z7x := ⟨qD (jc vX) (qD (jc z9z) (xY _)), xk (qI jF) (xt _), xp _⟩
def z0g : Shp := ⟨1, 2, [(0, .d (.int .i64))], [.var 61 (.ag [.wn 2 c1, .d c2, .d (.int .i64), .d c3, .d (.int .i64), .d .bool]), .row 5 (.int .u8), .row 64 c1]⟩
def z22 : XS := .one .ret z0g.xe
theorem z5n : z22.OK := XS.one_ok (zr z0g)
def xL (i : Int) (d : List T0) (d2 : Int) (d3 : T1) (d4 : Int) (d5 : Bool) (b : List Int) (d6 : List (List Int)) : Option ((Int × (List T0) × Int × T1 × Int × Bool × (List Int) × (List (List Int)))) :=
 ja d6 0 (kA d6) fun w =>
 (qX (w, d, d2, d3, d4, d5) i).bind fun r =>
 bif neI r 0 then
 bif kB (kA d6) (kA d6) then
 some (r, d, d2, d3, d4, d5, b, d6)
 else none
 else
 zT (kA b) (
 bif neI (kA b : Nat) 256 then
 bif kB (kA d6) (kA d6) then
 some (1, d, d2, d3, d4, d5, b, d6)
 else none
 else
 ja b 0 (kA b) fun w2 =>
 bif kh 256 (kA (kD 256 (0 : Int))) then
 (z2h d).bind fun r2 =>
 z3h (kA r2) (kA (([(i, qC (kD 256 (0 : Int)) 0 256 w2)] : List T0))) 264 fun _ =>
 bif kB (kA d6) (kA d6) then
 (xv (r2 ++ (([(i, qC (kD 256 (0 : Int)) 0 256 w2)] : List T0))) d2 d3 d4 d5 d6).bind fun r3 =>
 bif kB (kA r3.2.2.2.2.2.2) (kA r3.2.2.2.2.2.2) then
 some (r3.1, r3.2.1, r3.2.2.1, r3.2.2.2.1, r3.2.2.2.2.1, r3.2.2.2.2.2.1, b, r3.2.2.2.2.2.2)
 else none
 else none
 else none)
def z21 : Sig := ⟨13, [.pt 0 r0 [], .d (.int .i64), .wn 1 (.int .u8)], [.var 61 (.ag [.wn 2 c1, .d c2, .d (.int .i64), .d c3, .d (.int .i64), .d .bool]), .row 5 (.int .u8), .row 64 c1], 2, z22⟩
def z0s (x : Int × (List T0) × Int × T1 × Int × Bool × (List Int) × (List (List Int))) : Option ((Int × (List T0) × Int × T1 × Int × Bool × (List Int) × (List (List Int)))) := xL x.1 x.2.1 x.2.2.1 x.2.2.2.1 x.2.2.2.2.1 x.2.2.2.2.2.1 x.2.2.2.2.2.2.1 x.2.2.2.2.2.2.2
theorem z74 : FnOK Try.prog z21 z0s :=
 jH z65 (h := .no) Try.func13 (yB [] (by kernel_rfl) trivial) (by kernel_rfl) z5n (fun x => by kernel_rfl)
def zhf : Env := ⟨[], [], []⟩
theorem z7c : EnvsOK Try.prog zhf := ⟨xY _, xt _, xp _⟩
def z0a : Shp := ⟨22, 0, [(1, .d .str), (5, .wn 0 (.int .u8))], [.row 5 (.int .u8)]⟩
def xQ : XS := .one (.exit 0) z0a.xe
theorem z5a : xQ.OK := XS.one_ok (zr z0a)
def xP : Shp := ⟨22, 0, [(0, .d (.int .u8)), (1, .d .str), (5, .wn 0 (.int .u8)), (9, .d (.int .i64)), (10, .d (.int .i64))], [.row 5 (.int .u8)]⟩
abbrev jV := Int × (List Int) × Int × Int × (List Int)
abbrev z14 := ((List Int) × (List Int))
def jU (c : Int) (t1 : List Int) (t9 : Int) (t10 : Int) (b : List Int) : Option (jV ⊕ z14) :=
 bif ltI t10 t9 then
 bif inI t10 (kA b) then
 (b[t10.toNat]?).bind fun _x =>
 bif kB (kA b) (kA (b.set t10.toNat c)) then
 some (.inl (c, t1, t9, W64 (t10 + 1), b.set t10.toNat c))
 else none
 else none
 else
 bif kB (kA b) (kA b) then
 some (.inr (t1, b))
 else none
def zR (s : jV) : Option (jV ⊕ z14) := jU s.1 s.2.1 s.2.2.1 s.2.2.2.1 s.2.2.2.2
theorem z5t : SoundD Try.prog (.loop (qi (qj Try.f12) [1, 1, 0, 1, 0, 0])) (yy xP.xe xQ (zn zR)) :=
 qz (S := xP.xe) (X := xQ) z7c (h := .no) (yB [] (by kernel_rfl) trivial) (zr xP) z5a zR (fun s => by kernel_rfl)
def z7b : Shp := ⟨1, 0, [(0, .wn 0 (.int .u8))], [.row 5 (.int .u8)]⟩
def z9p : XS := .one .ret z7b.xe
theorem zdz : z9p.OK := XS.one_ok (zr z7b)
def z13 (c : Int) (t1 : List Int) : Option (((List Int))) :=
 bif kB 256 (kA (kD 256 (0 : Int))) then
 (zn zR (c, t1, 256, 0, kD 256 (0 : Int))).bind fun o =>
 bif kh (kA o.2) (kA o.2) then
 bif kB (kA o.2) (kA (qC o.2 0 (kA o.2) o.1)) then
 some (qC o.2 0 (kA o.2) o.1)
 else none
 else none
 else none
def z9o : Sig := ⟨12, [.d (.int .u8), .d .str], [], 0, z9p⟩
def z89 (x : Int × (List Int)) : Option (((List Int))) := z13 x.1 x.2
theorem zfy : FnOK Try.prog z9o z89 :=
 jH z7c (h := (.two .no (.two .no (.two (.two .no (.over (yy xP.xe xQ (zn zR)))) .no)))) Try.func12 (yB [.den (.loop (qi (qj Try.f12) [1, 1, 0, 1, 0, 0])) (yy xP.xe xQ (zn zR))] (by kernel_rfl) ⟨z5t, trivial⟩) (by kernel_rfl) zdz (fun x => by kernel_rfl)
def z9c : Env := ⟨[], [], []⟩
theorem z7u : EnvsOK Try.prog z9c := ⟨xY _, xt _, xp _⟩
def z1x : Shp := ⟨1, 0, [(0, .d (.int .i64))], []⟩
def z32 : XS := .one .ret z1x.xe
theorem z72 : z32.OK := XS.one_ok (zr z1x)
def jW (d : T2) : Option ((Int)) :=
 zT (kA d.2.1) (
 some (kA d.2.1 : Nat))
def z31 : Sig := ⟨18, [.rf (.d c4)], [], 0, z32⟩
def z27 (x : T2) : Option ((Int)) := jW x
theorem z8q : FnOK Try.prog z31 z27 :=
 jH z7u (h := .no) Try.func18 (yB [] (by kernel_rfl) trivial) (by kernel_rfl) z72 (fun x => by kernel_rfl)
def zcf : Env := ⟨[(z0w zbh z9s), (z0w zcg zbf), (z0w z31 z27)], [(vY z4c z3k), (vY z9o z89), (vY z21 z0s), (vY jD jx), (vY js jg), (vY vW vF), (vY vu va)], []⟩
theorem xZ : EnvsOK Try.prog zcf := ⟨qD (jc zhg) (qD (jc ziz) (qD (jc z8q) (xY _))), xk (qI z81) (xk (qI zfy) (xk (qI z74) (xk (qI z08) (xk (qI vt) (xk (qI z34) (xk (qI z1y) (xt _))))))), xp _⟩
def jA : Shp := ⟨186, 0, [(0, .d c8), (1, .d c8), (5, .pt 0 r6 []), (7, .pt 1 r0 []), (9, .pt 2 (.one (.arr 6 .leaf)) [])], [.var 25 (.d c3), .var 61 (.ag [.wn 3 c1, .d c2, .d (.int .i64), .d c3, .d (.int .i64), .d .bool]), .var 32 (.d (.arr 6 .str)), .row 64 c1]⟩
def yD : XS := .one (.exit 0) jA.xe
theorem z1k : yD.OK := XS.one_ok (zr jA)
def yC : Shp := ⟨186, 0, [(0, .d c8), (1, .d c8), (5, .pt 0 r6 []), (7, .pt 1 r0 []), (9, .pt 2 (.one (.arr 6 .leaf)) []), (50, .d (.int .i64))], [.var 25 (.d c3), .var 61 (.ag [.wn 3 c1, .d c2, .d (.int .i64), .d c3, .d (.int .i64), .d .bool]), .var 32 (.d (.arr 6 .str)), .row 64 c1]⟩
abbrev qE := (List T3) × (List T3) × Int × T1 × (List T0) × Int × T1 × Int × Bool × (List (List Int)) × (List (List Int))
abbrev jT := ((List T3) × (List T3) × T1 × (List T0) × Int × T1 × Int × Bool × (List (List Int)) × (List (List Int)))
def yE (sure : List T3) (loose : List T3) (t50 : Int) (c : T1) (d : List T0) (d2 : Int) (d3 : T1) (d4 : Int) (d5 : Bool) (want : List (List Int)) (d6 : List (List Int)) : Option (qE ⊕ jT) :=
 bif ltI t50 6 then
 ja (kD 256 (0 : Int)) 0 256 fun w =>
 bif inI t50 6 then
 (want[t50.toNat]?).bind fun _x =>
 bif kB (kA d6) (kA d6) then
 some (.inl (sure, loose, W64 (t50 + 1), c, d, d2, d3, d4, d5, want.set t50.toNat w, d6))
 else none
 else none
 else
 bif kB (kA d6) (kA d6) then
 some (.inr (sure, loose, c, d, d2, d3, d4, d5, want, d6))
 else none
def zJ (s : qE) : Option (qE ⊕ jT) := yE s.1 s.2.1 s.2.2.1 s.2.2.2.1 s.2.2.2.2.1 s.2.2.2.2.2.1 s.2.2.2.2.2.2.1 s.2.2.2.2.2.2.2.1 s.2.2.2.2.2.2.2.2.1 s.2.2.2.2.2.2.2.2.2.1 s.2.2.2.2.2.2.2.2.2.2
theorem z25 : SoundD Try.prog (.loop (qi (qj Try.f3) [1, 1, 1, 1, 0, 1, 0, 0])) (yy yC.xe yD (zn zJ)) :=
 qz (S := yC.xe) (X := yD) xZ (h := .no) (yB [] (by kernel_rfl) trivial) (zr yC) z1k zJ (fun s => by kernel_rfl)
def jm : Shp := ⟨186, 0, [(1, .d c8), (5, .pt 0 r6 []), (7, .pt 1 r0 []), (9, .pt 2 (.one (.arr 6 .leaf)) [])], [.var 25 (.d c3), .var 61 (.ag [.wn 3 c1, .d c2, .d (.int .i64), .d c3, .d (.int .i64), .d .bool]), .var 32 (.d (.arr 6 .str)), .row 64 c1]⟩
def jn : Shp := ⟨186, 0, [(6, .d .bool)], []⟩
def yu : XS := .or (.exit 2) jm.xe (.one .ret jn.xe)
theorem z0k : yu.OK := XS.or_ok (zr jm) (XS.one_ok (zr jn))
def yr : Shp := ⟨186, 0, [(1, .d c8), (5, .pt 0 r6 []), (7, .pt 1 r0 []), (9, .pt 2 (.one (.arr 6 .leaf)) []), (58, .d c8), (59, .d (.int .i64)), (60, .d (.int .i64))], [.var 25 (.d c3), .var 61 (.ag [.wn 3 c1, .d c2, .d (.int .i64), .d c3, .d (.int .i64), .d .bool]), .var 32 (.d (.arr 6 .str)), .row 64 c1]⟩
abbrev yY := (List T3) × (List T3) × Int × Int × T1 × (List T0) × Int × T1 × Int × Bool × (List (List Int)) × (List (List Int))
abbrev jB := ((List T3) × T1 × (List T0) × Int × T1 × Int × Bool × (List (List Int)) × (List (List Int))) ⊕ (Bool)
def yw (loose : List T3) (t58 : List T3) (t59 : Int) (t60 : Int) (c : T1) (d : List T0) (d2 : Int) (d3 : T1) (d4 : Int) (d5 : Bool) (want : List (List Int)) (d6 : List (List Int)) : Option (yY ⊕ jB) :=
 bif ltI t60 t59 then
 (vv t58 t60).bind fun x =>
 zT (kA x.2.2.2.1) (
 bif xG 0 (z2v (kA x.2.2.2.1 : Nat) 256) (kA x.2.2.2.1) then
 (z13 x.2.2.1 (vN x.2.2.2.1 0 (z2v (kA x.2.2.2.1 : Nat) 256))).bind fun r =>
 bif kB (kA r) (kA r) then
 bif kB (kA d6) (kA d6) then
 (xL (W64 (kF (zQ (x.2.1)) 6)) d d2 d3 d4 d5 r d6).bind fun r2 =>
 bif neI r2.1 0 then
 some (.inr (.inr false))
 else
 ja r2.2.2.2.2.2.2.1 0 (kA r) fun w =>
 bif inI (W64 (kF (zQ (x.2.1)) 6)) 6 then
 (want[(W64 (kF (zQ (x.2.1)) 6)).toNat]?).bind fun _x =>
 bif kB (kA r2.2.2.2.2.2.2.2) (kA r2.2.2.2.2.2.2.2) then
 some (.inl ((loose, t58, t59, W64 (t60 + 1), c, r2.2.1, r2.2.2.1, r2.2.2.2.1, r2.2.2.2.2.1, r2.2.2.2.2.2.1, want.set ((W64 (kF (zQ (x.2.1)) 6)).toNat) w, r2.2.2.2.2.2.2.2)))
 else none
 else none
 else none
 else none
 else none)
 else
 bif kB (kA d6) (kA d6) then
 some (.inr (.inl (loose, c, d, d2, d3, d4, d5, want, d6)))
 else none
def zy (s : yY) : Option (yY ⊕ jB) := yw s.1 s.2.1 s.2.2.1 s.2.2.2.1 s.2.2.2.2.1 s.2.2.2.2.2.1 s.2.2.2.2.2.2.1 s.2.2.2.2.2.2.2.1 s.2.2.2.2.2.2.2.2.1 s.2.2.2.2.2.2.2.2.2.1 s.2.2.2.2.2.2.2.2.2.2.1 s.2.2.2.2.2.2.2.2.2.2.2
theorem z10 : SoundD Try.prog (.loop (qi (qj Try.f3) [1, 1, 1, 1, 1, 0, 1, 0, 0])) (yy yr.xe yu (zn zy)) :=
 qz (S := yr.xe) (X := yu) xZ (h := (.two .no (.two .no (.two (.two .no (.two .no (.two (.reg [] [9, 0, 1]) .no))) .no)))) (yB [] (by kernel_rfl) trivial) (zr yr) z0k zy (fun s => by kernel_rfl)
def yO : Shp := ⟨186, 0, [(5, .pt 0 r6 []), (7, .pt 1 r0 []), (9, .pt 2 (.one (.arr 6 .leaf)) []), (15, .pt 3 r9 []), (16, .d (.int .i64)), (17, .d (.int .i64)), (19, .d (.int .i64)), (92, .d c8), (93, .d (.int .i64)), (94, .d (.int .i64))], [.var 25 (.d c3), .var 61 (.ag [.wn 4 c1, .d c2, .d (.int .i64), .d c3, .d (.int .i64), .d .bool]), .var 32 (.d (.arr 6 .str)), .var 41 (.ag [.wn 5 .str, .wn 6 .str, .wn 7 .str, .wn 8 .str, .wn 9 .str, .wn 10 .str]), .row 64 c1, .row 9 .str, .row 9 .str, .row 9 .str, .row 9 .str, .row 9 .str, .row 9 .str]⟩
def zS : XS := .one .normal yO.xe
theorem qN : zS.OK := XS.one_ok (zr yO)
def qo : Shp := ⟨186, 0, [(5, .pt 0 r6 []), (7, .pt 1 r0 []), (9, .pt 2 (.one (.arr 6 .leaf)) []), (15, .pt 3 r9 []), (16, .d (.int .i64))], [.var 25 (.d c3), .var 61 (.ag [.wn 4 c1, .d c2, .d (.int .i64), .d c3, .d (.int .i64), .d .bool]), .var 32 (.d (.arr 6 .str)), .var 41 (.ag [.wn 5 .str, .wn 6 .str, .wn 7 .str, .wn 8 .str, .wn 9 .str, .wn 10 .str]), .row 64 c1, .row 9 .str, .row 9 .str, .row 9 .str, .row 9 .str, .row 9 .str, .row 9 .str]⟩
def qp : Shp := ⟨186, 0, [(6, .d .bool)], []⟩
def zM : XS := .or (.exit 4) qo.xe (.one .ret qp.xe)
theorem vi : zM.OK := XS.or_ok (zr qo) (XS.one_ok (zr qp))
def zL : Shp := ⟨186, 0, [(5, .pt 0 r6 []), (7, .pt 1 r0 []), (9, .pt 2 (.one (.arr 6 .leaf)) []), (15, .pt 3 r9 []), (16, .d (.int .i64)), (92, .d c8), (93, .d (.int .i64)), (94, .d (.int .i64))], [.var 25 (.d c3), .var 61 (.ag [.wn 4 c1, .d c2, .d (.int .i64), .d c3, .d (.int .i64), .d .bool]), .var 32 (.d (.arr 6 .str)), .var 41 (.ag [.wn 5 .str, .wn 6 .str, .wn 7 .str, .wn 8 .str, .wn 9 .str, .wn 10 .str]), .row 64 c1, .row 9 .str, .row 9 .str, .row 9 .str, .row 9 .str, .row 9 .str, .row 9 .str]⟩
abbrev yi := Int × (List T3) × Int × Int × T1 × (List T0) × Int × T1 × Int × Bool × (List (List Int)) × (List (List Int)) × (List (List Int)) × (List (List Int)) × (List (List Int)) × (List (List Int)) × (List (List Int)) × (List (List Int))
abbrev qJ := (Int × T1 × (List T0) × Int × T1 × Int × Bool × (List (List Int)) × (List (List Int)) × (List (List Int)) × (List (List Int)) × (List (List Int)) × (List (List Int)) × (List (List Int)) × (List (List Int))) ⊕ (Bool)
def zN (torn : Int) (t92 : List T3) (t93 : Int) (t94 : Int) (c : T1) (d : List T0) (d2 : Int) (d3 : T1) (d4 : Int) (d5 : Bool) (want : List (List Int)) (d6 : List (List Int)) (may : List (List Int)) (may2 : List (List Int)) (may3 : List (List Int)) (may4 : List (List Int)) (may5 : List (List Int)) (may6 : List (List Int)) : Option (yi ⊕ qJ) :=
 bif ltI t94 t93 then
 (vv t92 t94).bind fun x =>
 zT (kA x.2.2.2.1) (
 bif xG 0 (z2v (kA x.2.2.2.1 : Nat) 256) (kA x.2.2.2.1) then
 (z13 x.2.2.1 (vN x.2.2.2.1 0 (z2v (kA x.2.2.2.1 : Nat) 256))).bind fun r =>
 ja r 0 (kA r) fun w =>
 bif kB (kA w) (kA w) then
 bif kB (kA d6) (kA d6) then
 (xL (W64 (kF (zQ (x.2.1)) 6)) d d2 d3 d4 d5 w d6).bind fun r2 =>
 bif neI r2.1 0 then
 some (.inr (.inr false))
 else
 (show Option ((Int × Int × Int × (List T3) × Int × Int × T1 × (List T0) × Int × T1 × Int × Bool × (List (List Int)) × (List (List Int)) × (List (List Int)) × (List (List Int)) × (List (List Int)) × (List (List Int)) × (List (List Int)) × (List (List Int)))) from
 bif eqI (W64 (kF (zQ (x.2.1)) 6)) 0 then
 bif kB (kA may) (kA may) then
 z3h (kA may) (kA ([w] : List (List Int))) 16 fun _ =>
 bif eqI (W64 (kF (zQ (x.2.1)) 6)) 0 then
 bif kB (kA r2.2.2.2.2.2.2.2) (kA r2.2.2.2.2.2.2.2) then
 bif kB (kA (may ++ ([w] : List (List Int)))) (kA (may ++ ([w] : List (List Int)))) then
 bif kB (kA may2) (kA may2) then
 bif kB (kA may3) (kA may3) then
 bif kB (kA may4) (kA may4) then
 bif kB (kA may5) (kA may5) then
 bif kB (kA may6) (kA may6) then
 some ((torn, t94, W64 (kF (zQ (x.2.1)) 6), t92, t93, t94, c, r2.2.1, r2.2.2.1, r2.2.2.2.1, r2.2.2.2.2.1, r2.2.2.2.2.2.1, want, r2.2.2.2.2.2.2.2, may ++ ([w] : List (List Int)), may2, may3, may4, may5, may6))
 else none
 else none
 else none
 else none
 else none
 else none
 else none
 else
 bif eqI (W64 (kF (zQ (x.2.1)) 6)) 1 then
 none
 else
 bif eqI (W64 (kF (zQ (x.2.1)) 6)) 2 then
 none
 else
 bif eqI (W64 (kF (zQ (x.2.1)) 6)) 3 then
 none
 else
 bif eqI (W64 (kF (zQ (x.2.1)) 6)) 4 then
 none
 else
 bif eqI (W64 (kF (zQ (x.2.1)) 6)) 5 then
 none
 else
 none
 else none
 else
 bif eqI (W64 (kF (zQ (x.2.1)) 6)) 1 then
 bif kB (kA may2) (kA may2) then
 z3h (kA may2) (kA ([w] : List (List Int))) 16 fun _ =>
 bif eqI (W64 (kF (zQ (x.2.1)) 6)) 0 then
 none
 else
 bif eqI (W64 (kF (zQ (x.2.1)) 6)) 1 then
 bif kB (kA r2.2.2.2.2.2.2.2) (kA r2.2.2.2.2.2.2.2) then
 bif kB (kA may) (kA may) then
 bif kB (kA (may2 ++ ([w] : List (List Int)))) (kA (may2 ++ ([w] : List (List Int)))) then
 bif kB (kA may3) (kA may3) then
 bif kB (kA may4) (kA may4) then
 bif kB (kA may5) (kA may5) then
 bif kB (kA may6) (kA may6) then
 some ((torn, t94, W64 (kF (zQ (x.2.1)) 6), t92, t93, t94, c, r2.2.1, r2.2.2.1, r2.2.2.2.1, r2.2.2.2.2.1, r2.2.2.2.2.2.1, want, r2.2.2.2.2.2.2.2, may, may2 ++ ([w] : List (List Int)), may3, may4, may5, may6))
 else none
 else none
 else none
 else none
 else none
 else none
 else none
 else
 bif eqI (W64 (kF (zQ (x.2.1)) 6)) 2 then
 none
 else
 bif eqI (W64 (kF (zQ (x.2.1)) 6)) 3 then
 none
 else
 bif eqI (W64 (kF (zQ (x.2.1)) 6)) 4 then
 none
 else
 bif eqI (W64 (kF (zQ (x.2.1)) 6)) 5 then
 none
 else
 none
 else none
 else
 bif eqI (W64 (kF (zQ (x.2.1)) 6)) 2 then
 bif kB (kA may3) (kA may3) then
 z3h (kA may3) (kA ([w] : List (List Int))) 16 fun _ =>
 bif eqI (W64 (kF (zQ (x.2.1)) 6)) 0 then
 none
 else
 bif eqI (W64 (kF (zQ (x.2.1)) 6)) 1 then
 none
 else
 bif eqI (W64 (kF (zQ (x.2.1)) 6)) 2 then
 bif kB (kA r2.2.2.2.2.2.2.2) (kA r2.2.2.2.2.2.2.2) then
 bif kB (kA may) (kA may) then
 bif kB (kA may2) (kA may2) then
 bif kB (kA (may3 ++ ([w] : List (List Int)))) (kA (may3 ++ ([w] : List (List Int)))) then
 bif kB (kA may4) (kA may4) then
 bif kB (kA may5) (kA may5) then
 bif kB (kA may6) (kA may6) then
 some ((torn, t94, W64 (kF (zQ (x.2.1)) 6), t92, t93, t94, c, r2.2.1, r2.2.2.1, r2.2.2.2.1, r2.2.2.2.2.1, r2.2.2.2.2.2.1, want, r2.2.2.2.2.2.2.2, may, may2, may3 ++ ([w] : List (List Int)), may4, may5, may6))
 else none
 else none
 else none
 else none
 else none
 else none
 else none
 else
 bif eqI (W64 (kF (zQ (x.2.1)) 6)) 3 then
 none
 else
 bif eqI (W64 (kF (zQ (x.2.1)) 6)) 4 then
 none
 else
 bif eqI (W64 (kF (zQ (x.2.1)) 6)) 5 then
 none
 else
 none
 else none
 else
 bif eqI (W64 (kF (zQ (x.2.1)) 6)) 3 then
 bif kB (kA may4) (kA may4) then
 z3h (kA may4) (kA ([w] : List (List Int))) 16 fun _ =>
 bif eqI (W64 (kF (zQ (x.2.1)) 6)) 0 then
 none
 else
 bif eqI (W64 (kF (zQ (x.2.1)) 6)) 1 then
 none
 else
 bif eqI (W64 (kF (zQ (x.2.1)) 6)) 2 then
 none
 else
 bif eqI (W64 (kF (zQ (x.2.1)) 6)) 3 then
 bif kB (kA r2.2.2.2.2.2.2.2) (kA r2.2.2.2.2.2.2.2) then
 bif kB (kA may) (kA may) then
 bif kB (kA may2) (kA may2) then
 bif kB (kA may3) (kA may3) then
 bif kB (kA (may4 ++ ([w] : List (List Int)))) (kA (may4 ++ ([w] : List (List Int)))) then
 bif kB (kA may5) (kA may5) then
 bif kB (kA may6) (kA may6) then
 some ((torn, t94, W64 (kF (zQ (x.2.1)) 6), t92, t93, t94, c, r2.2.1, r2.2.2.1, r2.2.2.2.1, r2.2.2.2.2.1, r2.2.2.2.2.2.1, want, r2.2.2.2.2.2.2.2, may, may2, may3, may4 ++ ([w] : List (List Int)), may5, may6))
 else none
 else none
 else none
 else none
 else none
 else none
 else none
 else
 bif eqI (W64 (kF (zQ (x.2.1)) 6)) 4 then
 none
 else
 bif eqI (W64 (kF (zQ (x.2.1)) 6)) 5 then
 none
 else
 none
 else none
 else
 bif eqI (W64 (kF (zQ (x.2.1)) 6)) 4 then
 bif kB (kA may5) (kA may5) then
 z3h (kA may5) (kA ([w] : List (List Int))) 16 fun _ =>
 bif eqI (W64 (kF (zQ (x.2.1)) 6)) 0 then
 none
 else
 bif eqI (W64 (kF (zQ (x.2.1)) 6)) 1 then
 none
 else
 bif eqI (W64 (kF (zQ (x.2.1)) 6)) 2 then
 none
 else
 bif eqI (W64 (kF (zQ (x.2.1)) 6)) 3 then
 none
 else
 bif eqI (W64 (kF (zQ (x.2.1)) 6)) 4 then
 bif kB (kA r2.2.2.2.2.2.2.2) (kA r2.2.2.2.2.2.2.2) then
 bif kB (kA may) (kA may) then
 bif kB (kA may2) (kA may2) then
 bif kB (kA may3) (kA may3) then
 bif kB (kA may4) (kA may4) then
 bif kB (kA (may5 ++ ([w] : List (List Int)))) (kA (may5 ++ ([w] : List (List Int)))) then
 bif kB (kA may6) (kA may6) then
 some ((torn, t94, W64 (kF (zQ (x.2.1)) 6), t92, t93, t94, c, r2.2.1, r2.2.2.1, r2.2.2.2.1, r2.2.2.2.2.1, r2.2.2.2.2.2.1, want, r2.2.2.2.2.2.2.2, may, may2, may3, may4, may5 ++ ([w] : List (List Int)), may6))
 else none
 else none
 else none
 else none
 else none
 else none
 else none
 else
 bif eqI (W64 (kF (zQ (x.2.1)) 6)) 5 then
 none
 else
 none
 else none
 else
 bif eqI (W64 (kF (zQ (x.2.1)) 6)) 5 then
 bif kB (kA may6) (kA may6) then
 z3h (kA may6) (kA ([w] : List (List Int))) 16 fun _ =>
 bif eqI (W64 (kF (zQ (x.2.1)) 6)) 0 then
 none
 else
 bif eqI (W64 (kF (zQ (x.2.1)) 6)) 1 then
 none
 else
 bif eqI (W64 (kF (zQ (x.2.1)) 6)) 2 then
 none
 else
 bif eqI (W64 (kF (zQ (x.2.1)) 6)) 3 then
 none
 else
 bif eqI (W64 (kF (zQ (x.2.1)) 6)) 4 then
 none
 else
 bif eqI (W64 (kF (zQ (x.2.1)) 6)) 5 then
 bif kB (kA r2.2.2.2.2.2.2.2) (kA r2.2.2.2.2.2.2.2) then
 bif kB (kA may) (kA may) then
 bif kB (kA may2) (kA may2) then
 bif kB (kA may3) (kA may3) then
 bif kB (kA may4) (kA may4) then
 bif kB (kA may5) (kA may5) then
 bif kB (kA (may6 ++ ([w] : List (List Int)))) (kA (may6 ++ ([w] : List (List Int)))) then
 some ((torn, t94, W64 (kF (zQ (x.2.1)) 6), t92, t93, t94, c, r2.2.1, r2.2.2.1, r2.2.2.2.1, r2.2.2.2.2.1, r2.2.2.2.2.2.1, want, r2.2.2.2.2.2.2.2, may, may2, may3, may4, may5, may6 ++ ([w] : List (List Int))))
 else none
 else none
 else none
 else none
 else none
 else none
 else none
 else
 none
 else none
 else
 none).bind fun j =>
 bif eqI j.2.1 j.2.2.2.2.2.2.1.2.1 then
 bif kB (kA j.2.2.2.2.2.2.2.2.2.2.2.2.2.1) (kA j.2.2.2.2.2.2.2.2.2.2.2.2.2.1) then
 bif kB (kA j.2.2.2.2.2.2.2.2.2.2.2.2.2.2.1) (kA j.2.2.2.2.2.2.2.2.2.2.2.2.2.2.1) then
 bif kB (kA j.2.2.2.2.2.2.2.2.2.2.2.2.2.2.2.1) (kA j.2.2.2.2.2.2.2.2.2.2.2.2.2.2.2.1) then
 bif kB (kA j.2.2.2.2.2.2.2.2.2.2.2.2.2.2.2.2.1) (kA j.2.2.2.2.2.2.2.2.2.2.2.2.2.2.2.2.1) then
 bif kB (kA j.2.2.2.2.2.2.2.2.2.2.2.2.2.2.2.2.2.1) (kA j.2.2.2.2.2.2.2.2.2.2.2.2.2.2.2.2.2.1) then
 bif kB (kA j.2.2.2.2.2.2.2.2.2.2.2.2.2.2.2.2.2.2.1) (kA j.2.2.2.2.2.2.2.2.2.2.2.2.2.2.2.2.2.2.1) then
 bif kB (kA j.2.2.2.2.2.2.2.2.2.2.2.2.2.2.2.2.2.2.2) (kA j.2.2.2.2.2.2.2.2.2.2.2.2.2.2.2.2.2.2.2) then
 some (.inl (j.2.2.1, j.2.2.2.1, j.2.2.2.2.1, W64 (j.2.2.2.2.2.1 + 1), j.2.2.2.2.2.2.1, j.2.2.2.2.2.2.2.1, j.2.2.2.2.2.2.2.2.1, j.2.2.2.2.2.2.2.2.2.1, j.2.2.2.2.2.2.2.2.2.2.1, j.2.2.2.2.2.2.2.2.2.2.2.1, j.2.2.2.2.2.2.2.2.2.2.2.2.1, j.2.2.2.2.2.2.2.2.2.2.2.2.2.1, j.2.2.2.2.2.2.2.2.2.2.2.2.2.2.1, j.2.2.2.2.2.2.2.2.2.2.2.2.2.2.2.1, j.2.2.2.2.2.2.2.2.2.2.2.2.2.2.2.2.1, j.2.2.2.2.2.2.2.2.2.2.2.2.2.2.2.2.2.1, j.2.2.2.2.2.2.2.2.2.2.2.2.2.2.2.2.2.2.1, j.2.2.2.2.2.2.2.2.2.2.2.2.2.2.2.2.2.2.2))
 else none
 else none
 else none
 else none
 else none
 else none
 else none
 else
 bif kB (kA j.2.2.2.2.2.2.2.2.2.2.2.2.2.1) (kA j.2.2.2.2.2.2.2.2.2.2.2.2.2.1) then
 bif kB (kA j.2.2.2.2.2.2.2.2.2.2.2.2.2.2.1) (kA j.2.2.2.2.2.2.2.2.2.2.2.2.2.2.1) then
 bif kB (kA j.2.2.2.2.2.2.2.2.2.2.2.2.2.2.2.1) (kA j.2.2.2.2.2.2.2.2.2.2.2.2.2.2.2.1) then
 bif kB (kA j.2.2.2.2.2.2.2.2.2.2.2.2.2.2.2.2.1) (kA j.2.2.2.2.2.2.2.2.2.2.2.2.2.2.2.2.1) then
 bif kB (kA j.2.2.2.2.2.2.2.2.2.2.2.2.2.2.2.2.2.1) (kA j.2.2.2.2.2.2.2.2.2.2.2.2.2.2.2.2.2.1) then
 bif kB (kA j.2.2.2.2.2.2.2.2.2.2.2.2.2.2.2.2.2.2.1) (kA j.2.2.2.2.2.2.2.2.2.2.2.2.2.2.2.2.2.2.1) then
 bif kB (kA j.2.2.2.2.2.2.2.2.2.2.2.2.2.2.2.2.2.2.2) (kA j.2.2.2.2.2.2.2.2.2.2.2.2.2.2.2.2.2.2.2) then
 some (.inl (j.1, j.2.2.2.1, j.2.2.2.2.1, W64 (j.2.2.2.2.2.1 + 1), j.2.2.2.2.2.2.1, j.2.2.2.2.2.2.2.1, j.2.2.2.2.2.2.2.2.1, j.2.2.2.2.2.2.2.2.2.1, j.2.2.2.2.2.2.2.2.2.2.1, j.2.2.2.2.2.2.2.2.2.2.2.1, j.2.2.2.2.2.2.2.2.2.2.2.2.1, j.2.2.2.2.2.2.2.2.2.2.2.2.2.1, j.2.2.2.2.2.2.2.2.2.2.2.2.2.2.1, j.2.2.2.2.2.2.2.2.2.2.2.2.2.2.2.1, j.2.2.2.2.2.2.2.2.2.2.2.2.2.2.2.2.1, j.2.2.2.2.2.2.2.2.2.2.2.2.2.2.2.2.2.1, j.2.2.2.2.2.2.2.2.2.2.2.2.2.2.2.2.2.2.1, j.2.2.2.2.2.2.2.2.2.2.2.2.2.2.2.2.2.2.2))
 else none
 else none
 else none
 else none
 else none
 else none
 else none
 else none
 else none
 else none)
 else
 bif kB (kA d6) (kA d6) then
 bif kB (kA may) (kA may) then
 bif kB (kA may2) (kA may2) then
 bif kB (kA may3) (kA may3) then
 bif kB (kA may4) (kA may4) then
 bif kB (kA may5) (kA may5) then
 bif kB (kA may6) (kA may6) then
 some (.inr (.inl (torn, c, d, d2, d3, d4, d5, want, d6, may, may2, may3, may4, may5, may6)))
 else none
 else none
 else none
 else none
 else none
 else none
 else none
def zl (s : yi) : Option (yi ⊕ qJ) := zN s.1 s.2.1 s.2.2.1 s.2.2.2.1 s.2.2.2.2.1 s.2.2.2.2.2.1 s.2.2.2.2.2.2.1 s.2.2.2.2.2.2.2.1 s.2.2.2.2.2.2.2.2.1 s.2.2.2.2.2.2.2.2.2.1 s.2.2.2.2.2.2.2.2.2.2.1 s.2.2.2.2.2.2.2.2.2.2.2.1 s.2.2.2.2.2.2.2.2.2.2.2.2.1 s.2.2.2.2.2.2.2.2.2.2.2.2.2.1 s.2.2.2.2.2.2.2.2.2.2.2.2.2.2.1 s.2.2.2.2.2.2.2.2.2.2.2.2.2.2.2.1 s.2.2.2.2.2.2.2.2.2.2.2.2.2.2.2.2.1 s.2.2.2.2.2.2.2.2.2.2.2.2.2.2.2.2.2
theorem vw : SoundD Try.prog (.loop (qi (qj Try.f3) [1, 1, 1, 1, 1, 1, 1, 1, 1, 0, 1, 0, 0])) (yy zL.xe zM (zn zl)) :=
 qz (S := zL.xe) (X := zM) xZ (h := (.two .no (.two .no (.two (.two .no (.two .no (.two (.reg [] [9, 0, 2]) (.two .no (.join (fun _ => zS) .no .no))))) .no)))) (yB [.xs (fun _ => zS)] (by kernel_rfl) ⟨(zdq qN), trivial⟩) (zr zL) vi zl (fun s => by kernel_rfl)
def yA : Shp := ⟨186, 0, [(7, .pt 0 r0 []), (9, .pt 1 (.one (.arr 6 .leaf)) []), (15, .pt 2 r9 []), (16, .d (.int .i64)), (21, .d (.int .i64)), (22, .wn 3 (.int .u8)), (24, .d .bool), (140, .d (.int .i64)), (152, .pt 0 r0 []), (153, .d (.int .i64)), (154, .d .bool)], [.var 61 (.ag [.wn 4 c1, .d c2, .d (.int .i64), .d c3, .d (.int .i64), .d .bool]), .var 32 (.d (.arr 6 .str)), .var 41 (.ag [.d (.sl .str), .d (.sl .str), .d (.sl .str), .d (.sl .str), .d (.sl .str), .d (.sl .str)]), .row 64 (.int .u8), .row 64 c1]⟩
def zK : XS := .one .normal yA.xe
theorem qn : zK.OK := XS.one_ok (zr yA)
def ym : Shp := ⟨186, 0, [(7, .pt 0 r0 []), (9, .pt 1 (.one (.arr 6 .leaf)) []), (15, .pt 2 r9 []), (16, .d (.int .i64)), (22, .wn 3 (.int .u8)), (24, .d .bool), (140, .d (.int .i64)), (152, .pt 0 r0 []), (153, .d (.int .i64)), (154, .d .bool), (169, .d (.sl .str)), (170, .d (.int .i64)), (171, .d (.int .i64))], [.var 61 (.ag [.wn 4 c1, .d c2, .d (.int .i64), .d c3, .d (.int .i64), .d .bool]), .var 32 (.d (.arr 6 .str)), .var 41 (.ag [.d (.sl .str), .d (.sl .str), .d (.sl .str), .d (.sl .str), .d (.sl .str), .d (.sl .str)]), .row 64 (.int .u8), .row 64 c1]⟩
def zG : XS := .one .normal ym.xe
theorem qa : zG.OK := XS.one_ok (zr ym)
def zY : Shp := ⟨186, 0, [(7, .pt 0 r0 []), (9, .pt 1 (.one (.arr 6 .leaf)) []), (15, .pt 2 r9 []), (16, .d (.int .i64)), (24, .d .bool), (140, .d (.int .i64)), (152, .pt 0 r0 []), (153, .d (.int .i64)), (154, .d .bool)], [.var 61 (.ag [.wn 3 c1, .d c2, .d (.int .i64), .d c3, .d (.int .i64), .d .bool]), .var 32 (.d (.arr 6 .str)), .var 41 (.ag [.d (.sl .str), .d (.sl .str), .d (.sl .str), .d (.sl .str), .d (.sl .str), .d (.sl .str)]), .row 64 c1]⟩
def zf : XS := .one (.exit 8) zY.xe
theorem xF : zf.OK := XS.one_ok (zr zY)
def ze : Shp := ⟨186, 0, [(7, .pt 0 r0 []), (9, .pt 1 (.one (.arr 6 .leaf)) []), (15, .pt 2 r9 []), (16, .d (.int .i64)), (22, .wn 3 (.int .u8)), (24, .d .bool), (140, .d (.int .i64)), (152, .pt 0 r0 []), (153, .d (.int .i64)), (154, .d .bool), (169, .d (.sl .str)), (170, .d (.int .i64)), (171, .d (.int .i64))], [.var 61 (.ag [.wn 4 c1, .d c2, .d (.int .i64), .d c3, .d (.int .i64), .d .bool]), .var 32 (.d (.arr 6 .str)), .var 41 (.ag [.d (.sl .str), .d (.sl .str), .d (.sl .str), .d (.sl .str), .d (.sl .str), .d (.sl .str)]), .row 64 (.int .u8), .row 64 c1]⟩
abbrev zC := Int × Bool × Int × Int × Bool × (List (List Int)) × Int × Int × (List T0) × Int × T1 × Int × Bool × (List (List Int)) × (List (List Int)) × (List (List Int)) × (List (List Int)) × (List (List Int)) × (List (List Int)) × (List (List Int)) × (List Int) × (List (List Int))
abbrev yc := (Int × Bool × Int × Int × Bool × (List T0) × Int × T1 × Int × Bool × (List (List Int)) × (List (List Int)) × (List (List Int)) × (List (List Int)) × (List (List Int)) × (List (List Int)) × (List (List Int)) × (List (List Int)))
def zg (torn : Int) (ok : Bool) (t140 : Int) (t153 : Int) (t154 : Bool) (t169 : List (List Int)) (t170 : Int) (t171 : Int) (d : List T0) (d2 : Int) (d3 : T1) (d4 : Int) (d5 : Bool) (want : List (List Int)) (may : List (List Int)) (may2 : List (List Int)) (may3 : List (List Int)) (may4 : List (List Int)) (may5 : List (List Int)) (may6 : List (List Int)) (b : List Int) (d6 : List (List Int)) : Option (zC ⊕ yc) :=
 bif ltI t171 t170 then
 (vv t169 t171).bind fun x =>
 bif ok then
 bif kB (kA b) (kA b) then
 bif kB (kA d6) (kA d6) then
 some (.inl (torn, true, t140, t153, t154, t169, t170, W64 (t171 + 1), d, d2, d3, d4, d5, want, may, may2, may3, may4, may5, may6, b, d6))
 else none
 else none
 else
 ja b 0 (kA b) fun w =>
 bif kB (kA b) (kA b) then
 bif kB (kA d6) (kA d6) then
 some (.inl (torn, eqS w x, t140, t153, t154, t169, t170, W64 (t171 + 1), d, d2, d3, d4, d5, want, may, may2, may3, may4, may5, may6, b, d6))
 else none
 else none
 else
 bif kB (kA d6) (kA d6) then
 some (.inr (torn, ok, t140, t153, t154, d, d2, d3, d4, d5, want, may, may2, may3, may4, may5, may6, d6))
 else none
def za (s : zC) : Option (zC ⊕ yc) := zg s.1 s.2.1 s.2.2.1 s.2.2.2.1 s.2.2.2.2.1 s.2.2.2.2.2.1 s.2.2.2.2.2.2.1 s.2.2.2.2.2.2.2.1 s.2.2.2.2.2.2.2.2.1 s.2.2.2.2.2.2.2.2.2.1 s.2.2.2.2.2.2.2.2.2.2.1 s.2.2.2.2.2.2.2.2.2.2.2.1 s.2.2.2.2.2.2.2.2.2.2.2.2.1 s.2.2.2.2.2.2.2.2.2.2.2.2.2.1 s.2.2.2.2.2.2.2.2.2.2.2.2.2.2.1 s.2.2.2.2.2.2.2.2.2.2.2.2.2.2.2.1 s.2.2.2.2.2.2.2.2.2.2.2.2.2.2.2.2.1 s.2.2.2.2.2.2.2.2.2.2.2.2.2.2.2.2.2.1 s.2.2.2.2.2.2.2.2.2.2.2.2.2.2.2.2.2.2.1 s.2.2.2.2.2.2.2.2.2.2.2.2.2.2.2.2.2.2.2.1 s.2.2.2.2.2.2.2.2.2.2.2.2.2.2.2.2.2.2.2.2.1 s.2.2.2.2.2.2.2.2.2.2.2.2.2.2.2.2.2.2.2.2.2
theorem xJ : SoundD Try.prog (.loop (qi (qj Try.f3) [1, 1, 1, 1, 1, 1, 1, 1, 1, 1, 1, 1, 0, 1, 0, 0, 1, 1, 0, 0, 1, 1, 1, 1, 0, 1, 0, 0])) (yy ze.xe zf (zn za)) :=
 qz (S := ze.xe) (X := zf) xZ (h := .no) (yB [] (by kernel_rfl) trivial) (zr ze) xF za (fun s => by kernel_rfl)
def xD : Shp := ⟨186, 0, [], []⟩
def xE : Shp := ⟨186, 0, [(6, .d .bool)], []⟩
def zB : XS := .or (.exit 6) xD.xe (.one .ret xE.xe)
theorem jC : zB.OK := XS.or_ok (zr xD) (XS.one_ok (zr xE))
def zA : Shp := ⟨186, 0, [(7, .pt 0 r0 []), (9, .pt 1 (.one (.arr 6 .leaf)) []), (15, .pt 2 r9 []), (16, .d (.int .i64)), (140, .d (.int .i64))], [.var 61 (.ag [.wn 3 c1, .d c2, .d (.int .i64), .d c3, .d (.int .i64), .d .bool]), .var 32 (.d (.arr 6 .str)), .var 41 (.ag [.d (.sl .str), .d (.sl .str), .d (.sl .str), .d (.sl .str), .d (.sl .str), .d (.sl .str)]), .row 64 c1]⟩
abbrev yF := Int × Int × (List T0) × Int × T1 × Int × Bool × (List (List Int)) × (List (List Int)) × (List (List Int)) × (List (List Int)) × (List (List Int)) × (List (List Int)) × (List (List Int)) × (List (List Int))
abbrev xO := (Unit) ⊕ (Bool)
def zD (torn : Int) (t140 : Int) (d : List T0) (d2 : Int) (d3 : T1) (d4 : Int) (d5 : Bool) (want : List (List Int)) (may : List (List Int)) (may2 : List (List Int)) (may3 : List (List Int)) (may4 : List (List Int)) (may5 : List (List Int)) (may6 : List (List Int)) (d6 : List (List Int)) : Option (yF ⊕ xO) :=
 bif ltI t140 6 then
 bif kB (kA d6) (kA d6) then
 (xq t140 d d2 d3 d4 d5 d6).bind fun r =>
 bif neI r.1 0 then
 some (.inr (.inr false))
 else
 ja r.2.2.2.2.2.2.2 0 (kA r.2.2.2.2.2.2.2) fun w =>
 (jW (w, r.2.1, r.2.2.1, r.2.2.2.1, r.2.2.2.2.1, r.2.2.2.2.2.1)).bind fun r2 =>
 bif neI r2 0 then
 some (.inr (.inr false))
 else
 (show Option ((Int × Int × Bool × Int × Int × Bool × (List T0) × Int × T1 × Int × Bool × (List (List Int)) × (List (List Int)) × (List (List Int)) × (List (List Int)) × (List (List Int)) × (List (List Int)) × (List (List Int)) × (List Int) × (List (List Int)))) from
 ja r.2.2.2.2.2.2.1 0 (kA r.2.2.2.2.2.2.1) fun w2 =>
 bif inI t140 6 then
 (want[t140.toNat]?).bind fun x =>
 bif eqS w2 x then
 bif kB (kA r.2.2.2.2.2.2.1) (kA r.2.2.2.2.2.2.1) then
 bif kB (kA r.2.2.2.2.2.2.2) (kA r.2.2.2.2.2.2.2) then
 some (torn, t140, true, t140, r2, neI r2 0, r.2.1, r.2.2.1, r.2.2.2.1, r.2.2.2.2.1, r.2.2.2.2.2.1, want, may, may2, may3, may4, may5, may6, r.2.2.2.2.2.2.1, r.2.2.2.2.2.2.2)
 else none
 else none
 else
 bif kB (kA r.2.2.2.2.2.2.1) (kA r.2.2.2.2.2.2.1) then
 bif kB (kA r.2.2.2.2.2.2.2) (kA r.2.2.2.2.2.2.2) then
 some (torn, t140, eqI t140 torn, t140, r2, neI r2 0, r.2.1, r.2.2.1, r.2.2.2.1, r.2.2.2.2.1, r.2.2.2.2.2.1, want, may, may2, may3, may4, may5, may6, r.2.2.2.2.2.2.1, r.2.2.2.2.2.2.2)
 else none
 else none
 else none).bind fun j =>
 (show Option ((Int × Bool × Int × Int × Bool × (List (List Int)) × Int × Int × (List T0) × Int × T1 × Int × Bool × (List (List Int)) × (List (List Int)) × (List (List Int)) × (List (List Int)) × (List (List Int)) × (List (List Int)) × (List (List Int)) × (List Int) × (List (List Int)))) from
 bif eqI j.2.1 0 then
 zT (kA j.2.2.2.2.2.2.2.2.2.2.2.2.1) (
 bif kB (kA j.2.2.2.2.2.2.2.2.2.2.2.2.2.2.2.2.2.2.1) (kA j.2.2.2.2.2.2.2.2.2.2.2.2.2.2.2.2.2.2.1) then
 bif kB (kA j.2.2.2.2.2.2.2.2.2.2.2.2.2.2.2.2.2.2.2) (kA j.2.2.2.2.2.2.2.2.2.2.2.2.2.2.2.2.2.2.2) then
 some (j.1, j.2.2.1, j.2.2.2.1, j.2.2.2.2.1, j.2.2.2.2.2.1, j.2.2.2.2.2.2.2.2.2.2.2.2.1, (kA j.2.2.2.2.2.2.2.2.2.2.2.2.1 : Nat), 0, j.2.2.2.2.2.2.1, j.2.2.2.2.2.2.2.1, j.2.2.2.2.2.2.2.2.1, j.2.2.2.2.2.2.2.2.2.1, j.2.2.2.2.2.2.2.2.2.2.1, j.2.2.2.2.2.2.2.2.2.2.2.1, j.2.2.2.2.2.2.2.2.2.2.2.2.1, j.2.2.2.2.2.2.2.2.2.2.2.2.2.1, j.2.2.2.2.2.2.2.2.2.2.2.2.2.2.1, j.2.2.2.2.2.2.2.2.2.2.2.2.2.2.2.1, j.2.2.2.2.2.2.2.2.2.2.2.2.2.2.2.2.1, j.2.2.2.2.2.2.2.2.2.2.2.2.2.2.2.2.2.1, j.2.2.2.2.2.2.2.2.2.2.2.2.2.2.2.2.2.2.1, j.2.2.2.2.2.2.2.2.2.2.2.2.2.2.2.2.2.2.2)
 else none
 else none)
 else
 bif eqI j.2.1 1 then
 zT (kA j.2.2.2.2.2.2.2.2.2.2.2.2.2.1) (
 bif kB (kA j.2.2.2.2.2.2.2.2.2.2.2.2.2.2.2.2.2.2.1) (kA j.2.2.2.2.2.2.2.2.2.2.2.2.2.2.2.2.2.2.1) then
 bif kB (kA j.2.2.2.2.2.2.2.2.2.2.2.2.2.2.2.2.2.2.2) (kA j.2.2.2.2.2.2.2.2.2.2.2.2.2.2.2.2.2.2.2) then
 some (j.1, j.2.2.1, j.2.2.2.1, j.2.2.2.2.1, j.2.2.2.2.2.1, j.2.2.2.2.2.2.2.2.2.2.2.2.2.1, (kA j.2.2.2.2.2.2.2.2.2.2.2.2.2.1 : Nat), 0, j.2.2.2.2.2.2.1, j.2.2.2.2.2.2.2.1, j.2.2.2.2.2.2.2.2.1, j.2.2.2.2.2.2.2.2.2.1, j.2.2.2.2.2.2.2.2.2.2.1, j.2.2.2.2.2.2.2.2.2.2.2.1, j.2.2.2.2.2.2.2.2.2.2.2.2.1, j.2.2.2.2.2.2.2.2.2.2.2.2.2.1, j.2.2.2.2.2.2.2.2.2.2.2.2.2.2.1, j.2.2.2.2.2.2.2.2.2.2.2.2.2.2.2.1, j.2.2.2.2.2.2.2.2.2.2.2.2.2.2.2.2.1, j.2.2.2.2.2.2.2.2.2.2.2.2.2.2.2.2.2.1, j.2.2.2.2.2.2.2.2.2.2.2.2.2.2.2.2.2.2.1, j.2.2.2.2.2.2.2.2.2.2.2.2.2.2.2.2.2.2.2)
 else none
 else none)
 else
 bif eqI j.2.1 2 then
 zT (kA j.2.2.2.2.2.2.2.2.2.2.2.2.2.2.1) (
 bif kB (kA j.2.2.2.2.2.2.2.2.2.2.2.2.2.2.2.2.2.2.1) (kA j.2.2.2.2.2.2.2.2.2.2.2.2.2.2.2.2.2.2.1) then
 bif kB (kA j.2.2.2.2.2.2.2.2.2.2.2.2.2.2.2.2.2.2.2) (kA j.2.2.2.2.2.2.2.2.2.2.2.2.2.2.2.2.2.2.2) then
 some (j.1, j.2.2.1, j.2.2.2.1, j.2.2.2.2.1, j.2.2.2.2.2.1, j.2.2.2.2.2.2.2.2.2.2.2.2.2.2.1, (kA j.2.2.2.2.2.2.2.2.2.2.2.2.2.2.1 : Nat), 0, j.2.2.2.2.2.2.1, j.2.2.2.2.2.2.2.1, j.2.2.2.2.2.2.2.2.1, j.2.2.2.2.2.2.2.2.2.1, j.2.2.2.2.2.2.2.2.2.2.1, j.2.2.2.2.2.2.2.2.2.2.2.1, j.2.2.2.2.2.2.2.2.2.2.2.2.1, j.2.2.2.2.2.2.2.2.2.2.2.2.2.1, j.2.2.2.2.2.2.2.2.2.2.2.2.2.2.1, j.2.2.2.2.2.2.2.2.2.2.2.2.2.2.2.1, j.2.2.2.2.2.2.2.2.2.2.2.2.2.2.2.2.1, j.2.2.2.2.2.2.2.2.2.2.2.2.2.2.2.2.2.1, j.2.2.2.2.2.2.2.2.2.2.2.2.2.2.2.2.2.2.1, j.2.2.2.2.2.2.2.2.2.2.2.2.2.2.2.2.2.2.2)
 else none
 else none)
 else
 bif eqI j.2.1 3 then
 zT (kA j.2.2.2.2.2.2.2.2.2.2.2.2.2.2.2.1) (
 bif kB (kA j.2.2.2.2.2.2.2.2.2.2.2.2.2.2.2.2.2.2.1) (kA j.2.2.2.2.2.2.2.2.2.2.2.2.2.2.2.2.2.2.1) then
 bif kB (kA j.2.2.2.2.2.2.2.2.2.2.2.2.2.2.2.2.2.2.2) (kA j.2.2.2.2.2.2.2.2.2.2.2.2.2.2.2.2.2.2.2) then
 some (j.1, j.2.2.1, j.2.2.2.1, j.2.2.2.2.1, j.2.2.2.2.2.1, j.2.2.2.2.2.2.2.2.2.2.2.2.2.2.2.1, (kA j.2.2.2.2.2.2.2.2.2.2.2.2.2.2.2.1 : Nat), 0, j.2.2.2.2.2.2.1, j.2.2.2.2.2.2.2.1, j.2.2.2.2.2.2.2.2.1, j.2.2.2.2.2.2.2.2.2.1, j.2.2.2.2.2.2.2.2.2.2.1, j.2.2.2.2.2.2.2.2.2.2.2.1, j.2.2.2.2.2.2.2.2.2.2.2.2.1, j.2.2.2.2.2.2.2.2.2.2.2.2.2.1, j.2.2.2.2.2.2.2.2.2.2.2.2.2.2.1, j.2.2.2.2.2.2.2.2.2.2.2.2.2.2.2.1, j.2.2.2.2.2.2.2.2.2.2.2.2.2.2.2.2.1, j.2.2.2.2.2.2.2.2.2.2.2.2.2.2.2.2.2.1, j.2.2.2.2.2.2.2.2.2.2.2.2.2.2.2.2.2.2.1, j.2.2.2.2.2.2.2.2.2.2.2.2.2.2.2.2.2.2.2)
 else none
 else none)
 else
 bif eqI j.2.1 4 then
 zT (kA j.2.2.2.2.2.2.2.2.2.2.2.2.2.2.2.2.1) (
 bif kB (kA j.2.2.2.2.2.2.2.2.2.2.2.2.2.2.2.2.2.2.1) (kA j.2.2.2.2.2.2.2.2.2.2.2.2.2.2.2.2.2.2.1) then
 bif kB (kA j.2.2.2.2.2.2.2.2.2.2.2.2.2.2.2.2.2.2.2) (kA j.2.2.2.2.2.2.2.2.2.2.2.2.2.2.2.2.2.2.2) then
 some (j.1, j.2.2.1, j.2.2.2.1, j.2.2.2.2.1, j.2.2.2.2.2.1, j.2.2.2.2.2.2.2.2.2.2.2.2.2.2.2.2.1, (kA j.2.2.2.2.2.2.2.2.2.2.2.2.2.2.2.2.1 : Nat), 0, j.2.2.2.2.2.2.1, j.2.2.2.2.2.2.2.1, j.2.2.2.2.2.2.2.2.1, j.2.2.2.2.2.2.2.2.2.1, j.2.2.2.2.2.2.2.2.2.2.1, j.2.2.2.2.2.2.2.2.2.2.2.1, j.2.2.2.2.2.2.2.2.2.2.2.2.1, j.2.2.2.2.2.2.2.2.2.2.2.2.2.1, j.2.2.2.2.2.2.2.2.2.2.2.2.2.2.1, j.2.2.2.2.2.2.2.2.2.2.2.2.2.2.2.1, j.2.2.2.2.2.2.2.2.2.2.2.2.2.2.2.2.1, j.2.2.2.2.2.2.2.2.2.2.2.2.2.2.2.2.2.1, j.2.2.2.2.2.2.2.2.2.2.2.2.2.2.2.2.2.2.1, j.2.2.2.2.2.2.2.2.2.2.2.2.2.2.2.2.2.2.2)
 else none
 else none)
 else
 bif eqI j.2.1 5 then
 zT (kA j.2.2.2.2.2.2.2.2.2.2.2.2.2.2.2.2.2.1) (
 bif kB (kA j.2.2.2.2.2.2.2.2.2.2.2.2.2.2.2.2.2.2.1) (kA j.2.2.2.2.2.2.2.2.2.2.2.2.2.2.2.2.2.2.1) then
 bif kB (kA j.2.2.2.2.2.2.2.2.2.2.2.2.2.2.2.2.2.2.2) (kA j.2.2.2.2.2.2.2.2.2.2.2.2.2.2.2.2.2.2.2) then
 some (j.1, j.2.2.1, j.2.2.2.1, j.2.2.2.2.1, j.2.2.2.2.2.1, j.2.2.2.2.2.2.2.2.2.2.2.2.2.2.2.2.2.1, (kA j.2.2.2.2.2.2.2.2.2.2.2.2.2.2.2.2.2.1 : Nat), 0, j.2.2.2.2.2.2.1, j.2.2.2.2.2.2.2.1, j.2.2.2.2.2.2.2.2.1, j.2.2.2.2.2.2.2.2.2.1, j.2.2.2.2.2.2.2.2.2.2.1, j.2.2.2.2.2.2.2.2.2.2.2.1, j.2.2.2.2.2.2.2.2.2.2.2.2.1, j.2.2.2.2.2.2.2.2.2.2.2.2.2.1, j.2.2.2.2.2.2.2.2.2.2.2.2.2.2.1, j.2.2.2.2.2.2.2.2.2.2.2.2.2.2.2.1, j.2.2.2.2.2.2.2.2.2.2.2.2.2.2.2.2.1, j.2.2.2.2.2.2.2.2.2.2.2.2.2.2.2.2.2.1, j.2.2.2.2.2.2.2.2.2.2.2.2.2.2.2.2.2.2.1, j.2.2.2.2.2.2.2.2.2.2.2.2.2.2.2.2.2.2.2)
 else none
 else none)
 else
 none).bind fun j2 =>
 bif kB (kA j2.2.2.2.2.2.2.2.2.2.2.2.2.2.2.2.2.2.2.2.2.1) (kA j2.2.2.2.2.2.2.2.2.2.2.2.2.2.2.2.2.2.2.2.2.1) then
 bif kB (kA j2.2.2.2.2.2.2.2.2.2.2.2.2.2.2.2.2.2.2.2.2.2) (kA j2.2.2.2.2.2.2.2.2.2.2.2.2.2.2.2.2.2.2.2.2.2) then
 (zn za (j2.1, j2.2.1, j2.2.2.1, j2.2.2.2.1, j2.2.2.2.2.1, j2.2.2.2.2.2.1, j2.2.2.2.2.2.2.1, j2.2.2.2.2.2.2.2.1, j2.2.2.2.2.2.2.2.2.1, j2.2.2.2.2.2.2.2.2.2.1, j2.2.2.2.2.2.2.2.2.2.2.1, j2.2.2.2.2.2.2.2.2.2.2.2.1, j2.2.2.2.2.2.2.2.2.2.2.2.2.1, j2.2.2.2.2.2.2.2.2.2.2.2.2.2.1, j2.2.2.2.2.2.2.2.2.2.2.2.2.2.2.1, j2.2.2.2.2.2.2.2.2.2.2.2.2.2.2.2.1, j2.2.2.2.2.2.2.2.2.2.2.2.2.2.2.2.2.1, j2.2.2.2.2.2.2.2.2.2.2.2.2.2.2.2.2.2.1, j2.2.2.2.2.2.2.2.2.2.2.2.2.2.2.2.2.2.2.1, j2.2.2.2.2.2.2.2.2.2.2.2.2.2.2.2.2.2.2.2.1, j2.2.2.2.2.2.2.2.2.2.2.2.2.2.2.2.2.2.2.2.2.1, j2.2.2.2.2.2.2.2.2.2.2.2.2.2.2.2.2.2.2.2.2.2)).bind fun o =>
 bif !o.2.1 then
 some (.inr (.inr false))
 else
 bif kB (kA o.2.2.2.2.2.2.2.2.2.2.2.2.2.2.2.2.2) (kA o.2.2.2.2.2.2.2.2.2.2.2.2.2.2.2.2.2) then
 some (.inl (o.1, W64 (o.2.2.1 + 1), o.2.2.2.2.2.1, o.2.2.2.2.2.2.1, o.2.2.2.2.2.2.2.1, o.2.2.2.2.2.2.2.2.1, o.2.2.2.2.2.2.2.2.2.1, o.2.2.2.2.2.2.2.2.2.2.1, o.2.2.2.2.2.2.2.2.2.2.2.1, o.2.2.2.2.2.2.2.2.2.2.2.2.1, o.2.2.2.2.2.2.2.2.2.2.2.2.2.1, o.2.2.2.2.2.2.2.2.2.2.2.2.2.2.1, o.2.2.2.2.2.2.2.2.2.2.2.2.2.2.2.1, o.2.2.2.2.2.2.2.2.2.2.2.2.2.2.2.2.1, o.2.2.2.2.2.2.2.2.2.2.2.2.2.2.2.2.2))
 else none
 else none
 else none
 else none
 else
 some (.inr (.inl ()))
def zk (s : yF) : Option (yF ⊕ xO) := zD s.1 s.2.1 s.2.2.1 s.2.2.2.1 s.2.2.2.2.1 s.2.2.2.2.2.1 s.2.2.2.2.2.2.1 s.2.2.2.2.2.2.2.1 s.2.2.2.2.2.2.2.2.1 s.2.2.2.2.2.2.2.2.2.1 s.2.2.2.2.2.2.2.2.2.2.1 s.2.2.2.2.2.2.2.2.2.2.2.1 s.2.2.2.2.2.2.2.2.2.2.2.2.1 s.2.2.2.2.2.2.2.2.2.2.2.2.2.1 s.2.2.2.2.2.2.2.2.2.2.2.2.2.2
theorem jI : SoundD Try.prog (.loop (qi (qj Try.f3) [1, 1, 1, 1, 1, 1, 1, 1, 1, 1, 1, 1, 0, 1, 0, 0])) (yy zA.xe zB (zn zk)) :=
 qz (S := zA.xe) (X := zB) xZ (h := (.two .no (.two .no (.two (.two .no (.two .no (.two .no (.join (fun _ => zK) .no (.two (.join (fun _ => zG) .no (.over (yy ze.xe zf (zn za)))) .no))))) .no)))) (yB [.xs (fun _ => zK), .xs (fun _ => zG), .den (.loop (qi (qj Try.f3) [1, 1, 1, 1, 1, 1, 1, 1, 1, 1, 1, 1, 0, 1, 0, 0, 1, 1, 0, 0, 1, 1, 1, 1, 0, 1, 0, 0])) (yy ze.xe zf (zn za))] (by kernel_rfl) ⟨(zdq qn), (zdq qa), xJ, trivial⟩) (zr zA) jC zk (fun s => by kernel_rfl)
def z3p : Shp := ⟨1, 0, [(0, .d .bool)], []⟩
def z59 : XS := .one .ret z3p.xe
theorem z9l : z59.OK := XS.one_ok (zr z3p)
def z2t (sure : List T3) (loose : List T3) (c : T1) : Option ((Bool)) :=
 (jP).bind fun r =>
 bif !r then
 (jP).bind fun r2 =>
 some r2
 else
 (z1l 1 sure).bind fun r3 =>
 bif !r3 then
 (jP).bind fun r4 =>
 some r4
 else
 (z1l 1 loose).bind fun r5 =>
 bif !r5 then
 (jP).bind fun r6 =>
 some r6
 else
 zT (kA c.1) (
 bif ltI 70 (kA c.1 : Nat) then
 (jP).bind fun r7 =>
 some r7
 else
 (z0u 6).bind fun r8 =>
 bif kB (kA r8.2.2.2.2.2.2) (kA r8.2.2.2.2.2.2) then
 (zn zJ (sure, loose, 0, c, r8.2.1, r8.2.2.1, r8.2.2.2.1, r8.2.2.2.2.1, r8.2.2.2.2.2.1, kD 6 ([] : List Int), r8.2.2.2.2.2.2)).bind fun o =>
 zT (kA o.1) (
 bif kB (kA o.2.2.2.2.2.2.2.2.2) (kA o.2.2.2.2.2.2.2.2.2) then
 (zn zy (o.2.1, o.1, (kA o.1 : Nat), 0, o.2.2.1, o.2.2.2.1, o.2.2.2.2.1, o.2.2.2.2.2.1, o.2.2.2.2.2.2.1, o.2.2.2.2.2.2.2.1, o.2.2.2.2.2.2.2.2.1, o.2.2.2.2.2.2.2.2.2)).bind fun o2 =>
 Sum.elim (fun y =>
 bif kB (kA y.2.2.2.2.2.2.2.2) (kA y.2.2.2.2.2.2.2.2) then
 (yM y.2.2.1 y.2.2.2.1 y.2.2.2.2.1 y.2.2.2.2.2.1 y.2.2.2.2.2.2.1 y.2.2.2.2.2.2.2.2).bind fun r9 =>
 bif neI r9.1 0 then
 some false
 else
 zT (kA y.1) (
 bif kB (kA r9.2.2.2.2.2.2) (kA r9.2.2.2.2.2.2) then
 bif kB 0 (kA ([] : List (List Int))) then
 bif kB 0 (kA ([] : List (List Int))) then
 bif kB 0 (kA ([] : List (List Int))) then
 bif kB 0 (kA ([] : List (List Int))) then
 bif kB 0 (kA ([] : List (List Int))) then
 bif kB 0 (kA ([] : List (List Int))) then
 (zn zl ((-1), y.1, (kA y.1 : Nat), 0, y.2.1, r9.2.1, r9.2.2.1, r9.2.2.2.1, r9.2.2.2.2.1, r9.2.2.2.2.2.1, y.2.2.2.2.2.2.2.1, r9.2.2.2.2.2.2, ([] : List (List Int)), ([] : List (List Int)), ([] : List (List Int)), ([] : List (List Int)), ([] : List (List Int)), ([] : List (List Int)))).bind fun o3 =>
 Sum.elim (fun y3 =>
 bif kB (kA y3.2.2.2.2.2.2.2.2.1) (kA y3.2.2.2.2.2.2.2.2.1) then
 (yW y3.2.1 y3.2.2.1 y3.2.2.2.1 y3.2.2.2.2.1 y3.2.2.2.2.2.1 y3.2.2.2.2.2.2.1 y3.2.2.2.2.2.2.2.2.1).bind fun r10 =>
 bif kB (kA r10.2.2.2.2.2) (kA r10.2.2.2.2.2) then
 (qH r10.1 r10.2.1 r10.2.2.1 r10.2.2.2.1 r10.2.2.2.2.1 r10.2.2.2.2.2).bind fun r11 =>
 ja y3.2.2.2.2.2.2.2.2.2.1 0 (kA y3.2.2.2.2.2.2.2.2.2.1) fun w =>
 ja y3.2.2.2.2.2.2.2.2.2.2.1 0 (kA y3.2.2.2.2.2.2.2.2.2.2.1) fun w2 =>
 ja y3.2.2.2.2.2.2.2.2.2.2.2.1 0 (kA y3.2.2.2.2.2.2.2.2.2.2.2.1) fun w3 =>
 ja y3.2.2.2.2.2.2.2.2.2.2.2.2.1 0 (kA y3.2.2.2.2.2.2.2.2.2.2.2.2.1) fun w4 =>
 ja y3.2.2.2.2.2.2.2.2.2.2.2.2.2.1 0 (kA y3.2.2.2.2.2.2.2.2.2.2.2.2.2.1) fun w5 =>
 ja y3.2.2.2.2.2.2.2.2.2.2.2.2.2.2 0 (kA y3.2.2.2.2.2.2.2.2.2.2.2.2.2.2) fun w6 =>
 bif kB (kA r11.2.2.2.2.2.2) (kA r11.2.2.2.2.2.2) then
 (zn zk (y3.1, 0, r11.2.1, r11.2.2.1, r11.2.2.2.1, r11.2.2.2.2.1, r11.2.2.2.2.2.1, y3.2.2.2.2.2.2.2.1, w, w2, w3, w4, w5, w6, r11.2.2.2.2.2.2)).bind fun o4 =>
 Sum.elim (fun y5 =>
 some true) (fun y6 =>
 some y6) o4
 else none
 else none
 else none) (fun y4 =>
 some y4) o3
 else none
 else none
 else none
 else none
 else none
 else none
 else none)
 else none) (fun y2 =>
 some y2) o2
 else none)
 else none)
def zce : Sig := ⟨3, [.d c8, .d c8, .d c3], [], 0, z59⟩
def z43 (x : (List T3) × (List T3) × T1) : Option ((Bool)) := z2t x.1 x.2.1 x.2.2
theorem zbn : FnOK Try.prog zce z43 :=
 jH xZ (h := (.two .no (.two .no (.two .no (.two .no (.two (.two .no (.over (yy yC.xe yD (zn zJ)))) (.two (.two .no (.over (yy yr.xe yu (zn zy)))) (.two .no (.two .no (.two .no (.two (.two .no (.over (yy zL.xe zM (zn zl)))) (.two .no (.two .no (.two (.two .no (.over (yy zA.xe zB (zn zk)))) .no)))))))))))))) Try.func3 (yB [.den (.loop (qi (qj Try.f3) [1, 1, 1, 1, 0, 1, 0, 0])) (yy yC.xe yD (zn zJ)), .den (.loop (qi (qj Try.f3) [1, 1, 1, 1, 1, 0, 1, 0, 0])) (yy yr.xe yu (zn zy)), .den (.loop (qi (qj Try.f3) [1, 1, 1, 1, 1, 1, 1, 1, 1, 0, 1, 0, 0])) (yy zL.xe zM (zn zl)), .den (.loop (qi (qj Try.f3) [1, 1, 1, 1, 1, 1, 1, 1, 1, 1, 1, 1, 0, 1, 0, 0])) (yy zA.xe zB (zn zk))] (by kernel_rfl) ⟨z25, z10, vw, jI, trivial⟩) (by kernel_rfl) z9l (fun x => by kernel_rfl)
theorem zaa (n : Nat) : kh n n = true := kj.mpr (Nat.le_refl n)
theorem beq_self (n : Nat) : kB n n = true := Nat.beq_refl n
theorem xn {R α : Type} (l : List α) (n : Nat) (h : n = l.length) (k : List α -> Option R) : ja l 0 n k = k l := by
 subst h;unfold ja;have : z23 0 (kA l) = kA l := rfl;rw [this, zaa];simp [zb7]
theorem zh7 {α : Type} (l m : List α) : qC l 0 l.length m = m.take l.length ++ l.drop m.length := by
 unfold qC;rw [List.take_zero, List.nil_append, Nat.zero_add];rcases Nat.le_total m.length l.length with h | h
 ·rw [Nat.min_eq_left h, List.take_length, kW h]
 ·rw [Nat.min_eq_right h, List.drop_length, kI h]
def yh (c : Int) (t : List Int) : List Int := t.take 256 ++ kD (256 - t.length) c
theorem zq7 (c : Int) (t : List Int) (m : Nat) (hm : m < 1000000) : zn yb (c, t, (m : Int), 0, kD m 0) = some (t, kD m c) := by
 have := z7g yb (fun i => (c, t, (m : Int), (i : Int), kD i c ++ kD (m - i) (0 : Int))) (fun _ => (t, kD m c)) m ?_ ?_
 ·simpa using this
 ·unfold yb vy;rw [qW (by simp), beq_self]
  simp
 ·intro i hi;refine .inl ⟨?_, rfl⟩;unfold yb vy;have hl : (kD i c ++ kD (m - i) (0 : Int)).length = m := by simp; omega
  have hset : (kD i c ++ kD (m - i) (0 : Int)).set i c = kD (i + 1) c ++ kD (m - (i + 1)) 0 := by
   rw [k0 _ _ (by simp), kE, kR, show m - i = (m - (i + 1)) + 1 by omega, kN, ke, ka (n := i), kg]
   rfl
  have hget : (kD i c ++ kD (m - i) (0 : Int))[i]? = some 0 := by
   rw [kO (by simp), kE, kR, show m - i = (m - (i + 1)) + 1 by omega, kN]; rfl
  have hset2 : (kD (i + 1) c ++ kD (m - (i + 1)) (0 : Int)).length = m := by simp; omega
  simp only [kM, hl, hset, hset2, hget, kC];rw [jh (by omega), z87 (by omega), jS (by omega), beq_self]
  rfl
theorem zmz (c : Int) (t : List Int) : z1m c t = some (yh c t) := by
 unfold z1m;have h0 := zq7 c t 256 (by omega)
 rw [show ((256 : Nat) : Int) = 256 from rfl] at h0
 have e : qC (kD 256 c) 0 256 t = yh c t := by
  have := zh7 (kD 256 c) t;rw [kE] at this;rw [this, yh, kb]
 have hl : 256 = (yh c t).length := by unfold yh; rw [kU, kY, kE]; omega
 rw [h0];simp only [kC, kE];rw [e, xn _ _ hl];rfl
theorem yN {R : Type} {n : Nat} (h : n <= 9223372036854775807) (k : Option R) : zT n k = k := by
 unfold zT; rw [kj.mpr h]; rfl
theorem z79 {α : Type} {l : List α} {i : Nat} : vv l (i : Int) = l[i]? := by
 unfold vv; rw [z8b (Int.natCast_nonneg i)]; simp
theorem zun (n : Nat) : xG 0 (n : Int) n = true := by
 simp [xG, leI]
theorem zfu (l : List Int) (v : Int) (hl : l.length < 1000000) :
  ∀ (k i : Nat), i + k = l.length -> zn yz (l, v, (l.length : Nat), (i : Int)) = some (match (l.drop i).findIdx? (fun x => decide (v = x)) with | some j => .inr ((i + j : Nat) : Int) | none => .inl ())
 | 0, i, h => by
  rw [qF];unfold yz jj;rw [qW (by simp; omega), kI (by omega)]
  rfl
 | k + 1, i, h => by
  have hi : i < l.length := by omega
  rw [qF, show yz (l, v, (l.length : Nat), (i : Int)) = jj l v (l.length : Nat) (i : Int) from rfl]
  unfold jj;rw [jh (by omega), z79, kG hi, kL hi]
  simp only [kC, cond_true, List.findIdx?_cons]
  by_cases hx : v = l[i]
  ·rw [zjf hx];simp [hx]
  ·rw [ztj hx];simp only [hx, decide_false, cond_false, kC, Sum.elim_inl, kT, if_false];have ih := zfu l v hl k (i + 1) (by omega)
   rw [jS (by omega), show ((i : Int) + 1) = ((i + 1 : Nat) : Int) by simp, ih]
   cases hf : (l.drop (i + 1)).findIdx? (fun x => decide (v = x)) with
   | none => simp
   | some j => simp; omega
theorem zmg (l : List Int) (v : Int) (hl : l.length < 1000000) : z0i l v = some (decide (v ∈ l)) := by
 unfold z0i z7n;rw [yN (by omega)]
 have := zfu l v hl l.length 0 (by omega)
 rw [show ((0 : Nat) : Int) = 0 from rfl] at this
 rw [this];simp only [kc, kC];cases hf : l.findIdx? (fun x => decide (v = x)) with
 | none =>
  have hn : v ∉ l := fun hm => by
   rw [List.findIdx?_eq_none_iff] at hf;have := hf v hm;simp at this
  simp [hn, leI]
 | some j =>
  have hm : v ∈ l := by
   rw [List.findIdx?_eq_some_iff_getElem] at hf;obtain ⟨h1, h2, _⟩ := hf;simp at h2;rw [h2]; exact kH h1
  simp [hm, leI]
def vE (c : List Int × Int × Int) (k : Nat) : Int := if (k : Int) ∈ c.1 then 256 else if c.2.1 = (k : Int) then zhh 0 (z2v c.2.2 256) else 0
theorem zf8 (c : List Int × Int × Int) (k : Nat) : 0 <= vE c k /\ vE c k <= 256 := by
 unfold vE;split
 ·omega
 ·split
  ·simp only [zhh, z2v]; split <;> split <;> omega
  ·omega
def z93 (sure : List (List Int)) (w : Int × List Int) (n : Nat) : List (List Int) := sure.set w.1.toNat (w.2.take n ++ ((sure[w.1.toNat]?).getD []).drop n)
def z70 (c : List Int × Int × Int) : List (Int × List Int) -> Nat -> List (List Int) -> List (List Int)
 | [], _, s => s
 | w :: ws, k, s => z70 c ws (k + 1) (z93 s w (vE c k).toNat)
theorem z4l (sure : List (List Int)) (w : Int × List Int) (n : Nat) : (z93 sure w n).length = sure.length := by simp [z93]
structure OkD (loose : List (Int × List Int)) (sure : List (List Int)) : Prop where
 s : ∀ x, x ∈ sure -> x.length = 256
 w : ∀ w, w ∈ loose -> 0 <= w.1 /\ w.1 < sure.length /\ w.2.length = 256
theorem zhk {sure : List (List Int)} {w : Int × List Int} {n : Nat} (hs : ∀ x, x ∈ sure -> x.length = 256) (h0 : 0 <= w.1) (h1 : w.1 < sure.length) (h2 : w.2.length = 256) (hn : n <= 256) : ∀ x, x ∈ z93 sure w n -> x.length = 256 := fun x hx => by
 unfold z93 at hx;rcases List.mem_or_eq_of_mem_set hx with hx | rfl
 ·exact hs x hx
 ·have hlt : w.1.toNat < sure.length := by omega
  have := hs _ (kH hlt);rw [kG hlt, kZ, kU, kY, List.length_drop, this];omega
theorem zkc (loose : List (Int × List Int)) (d2 : Int) (d3 : List Int × Int × Int) (d4 : Int) (d5 : Bool) (d : List (Int × List Int)) (c : List Int × Int × Int) (hl : loose.length < 1000000) (hc : c.1.length < 1000000) :
  ∀ (k i : Nat) (sure : List (List Int)), i + k = loose.length -> OkD loose sure ->
   zn zF (loose, (loose.length : Nat), (i : Int), d, d2, d3, d4, d5, c, sure) = some (d, d2, d3, d4, d5, z70 c (loose.drop i) i sure)
 | 0, i, sure, h, ok => by
  rw [qF, show zF (loose, (loose.length : Nat), (i : Int), d, d2, d3, d4, d5, c, sure) = yL loose (loose.length : Nat) (i : Int) d d2 d3 d4 d5 c sure from rfl]
  unfold yL;rw [qW (by simp; omega), kI (by omega)]
  simp only [beq_self, cond_true, cond_false, kC, Sum.elim_inr, z70]
 | k + 1, i, sure, h, ok => by
  have hi : i < loose.length := by omega
  have hw := ok.w _ (kH hi);have hlt : loose[i].1.toNat < sure.length := by omega
  have hsl := ok.s _ (kH hlt);have ht := zf8 c i;rw [qF, show zF (loose, (loose.length : Nat), (i : Int), d, d2, d3, d4, d5, c, sure) = yL loose (loose.length : Nat) (i : Int) d d2 d3 d4 d5 c sure from rfl]
  unfold yL;rw [jh (by omega), z79, kG hi, zmg _ _ hc]
  simp only [kC, cond_true, beq_self];have hj : (bif decide ((i : Int) ∈ c.1) then some ((256 : Int), loose, ((loose.length : Nat) : Int), (i : Int), d, d2, d3, d4, d5, c, loose[i], sure)
    else bif eqI c.2.1 i then some (zhh 0 (z2v c.2.2 256), loose, ((loose.length : Nat) : Int), (i : Int), d, d2, d3, d4, d5, c, loose[i], sure)
    else some (0, loose, ((loose.length : Nat) : Int), (i : Int), d, d2, d3, d4, d5, c, loose[i], sure)) = some (vE c i, loose, ((loose.length : Nat) : Int), (i : Int), d, d2, d3, d4, d5, c, loose[i], sure) := by
   unfold vE
   by_cases h1 : (i : Int) ∈ c.1
   ·simp [h1]
   ·by_cases h2 : c.2.1 = (i : Int)
    ·simp [h1, h2, eqI]
    ·simp [h1, h2, eqI]
  rw [hj];simp only [kC];rw [z87 (by omega), kG hlt]
  simp only [kC, cond_true];rw [show xG 0 (vE c i) 256 = true by simp [xG, leI]; omega, xn _ _ hw.2.2.symm]
  simp only [cond_true];have hcp : qC sure[loose[i].1.toNat] 0 (vE c i).toNat loose[i].2 = loose[i].2.take (vE c i).toNat ++ sure[loose[i].1.toNat].drop (vE c i).toNat := by
   unfold qC;rw [Nat.min_eq_right (by omega)]
   simp
  have hput : sure.set loose[i].1.toNat (loose[i].2.take (vE c i).toNat ++ sure[loose[i].1.toNat].drop (vE c i).toNat) = z93 sure loose[i] (vE c i).toNat := by
   unfold z93; rw [kG hlt, kZ]
  rw [show kh (vE c i).toNat sure[loose[i].1.toNat].length = true from kj.mpr (by omega), hcp, hput, z4l, beq_self]
  simp only [cond_true, kC, Sum.elim_inl];rw [jS (by omega), show ((i : Int) + 1) = ((i + 1 : Nat) : Int) by simp, zkc loose d2 d3 d4 d5 d c hl hc k (i + 1) _ (by omega)
   ⟨zhk ok.s hw.1 hw.2.1 hw.2.2 (by omega), fun w hm => by rw [z4l]; exact ok.w w hm⟩, kL hi]
  rfl
abbrev xo := List (Int × List Int) × Int × (List Int × Int × Int) × Int × Bool × List (List Int)
def z1e (off : Bool) (n : Nat) (i : Int) : Int := if off then 6 else if 0 <= i /\ i < n then 0 else 2
theorem zl2 (s : List (List Int)) (l : List (Int × List Int)) (d2 : Int) (d3 : List Int × Int × Int) (d4 : Int) (off : Bool) (i : Int) (hs : s.length < 1000000) : qX (s, l, d2, d3, d4, off) i = some (z1e off s.length i) := by
 unfold qX yX z1e;simp only [kC];cases off with
 | true => rfl
 | false =>
  simp only [cond_false, kT, if_false]
  by_cases h0 : i < 0
  ·rw [jh h0, if_neg (by omega)]; rfl
  ·rw [qW h0, yN (by omega)]
   by_cases h1 : i < s.length
   ·rw [zvh (by omega), if_pos (by omega)]; rfl
   ·rw [z8b (by omega), if_neg (by omega)]; rfl
def z5l (c : List Int × Int × Int) (x : xo) : xo := if x.2.2.2.2.1 then x else ([], -1, x.2.2.1, x.2.2.2.1, true, z70 c x.1 0 x.2.2.2.2.2)
theorem zeo (c : List Int × Int × Int) : ∀ (l : List (Int × List Int)) (k : Nat) (s : List (List Int)), (z70 c l k s).length = s.length
 | [], _, _ => rfl
 | w :: ws, k, s => by simp only [z70]; rw [zeo c ws, z4l]
theorem zkb (c : List Int × Int × Int) (l : List (Int × List Int)) (d2 : Int) (d3 : List Int × Int × Int) (d4 : Int) (off : Bool) (s : List (List Int)) (hl : l.length < 1000000) (hc : c.1.length < 1000000) (ok : OkD l s) :
  yW c l d2 d3 d4 off s = some (z5l c (l, d2, d3, d4, off, s)) := by
 unfold yW yX z5l;rw [xn _ _ rfl];simp only [kC, beq_self, cond_true];cases off with
 | true => rfl
 | false =>
  simp only [cond_false, kT, if_false];rw [yN (by omega)]
  have := zkc l d2 d3 d4 false l c hl hc l.length 0 s (by omega) ok
  rw [show ((0 : Nat) : Int) = 0 from rfl] at this
  rw [this];simp only [kC, beq_self, cond_true, kc]
def xX (x : xo) : Int × xo :=
 if x.2.1 < 0 then (0, x.1, x.2.1, x.2.2.1, x.2.2.2.1 + 1, x.2.2.2.2.1, x.2.2.2.2.2)
 else if x.2.1 = 0 then (6, z5l x.2.2.1 (x.1, -1, x.2.2.1, x.2.2.2.1 + 1, x.2.2.2.2.1, x.2.2.2.2.2))
 else (0, x.1, x.2.1 - 1, x.2.2.1, x.2.2.2.1 + 1, x.2.2.2.2.1, x.2.2.2.2.2)
structure OkDev (x : xo) : Prop where
 d : OkD x.1 x.2.2.2.2.2
 l : x.1.length < 900000
 left : -1 <= x.2.1 /\ x.2.1 <= 9223372036854775807
 c : x.2.2.1.1.length < 1000000
 n : 0 <= x.2.2.2.1 /\ x.2.2.2.1 < 1000000000
 s : x.2.2.2.2.2.length < 1000000
theorem zbz (l : List (Int × List Int)) (d2 : Int) (d3 : List Int × Int × Int) (d4 : Int) (off : Bool) (s : List (List Int)) (hl : l.length < 1000000) (hc : d3.1.length < 1000000) (h2 : -1 <= d2 /\ d2 <= 9223372036854775807) (h4 : 0 <= d4 /\ d4 < 1000000000) (ok : OkD l s) :
  xv l d2 d3 d4 off s = some (xX (l, d2, d3, d4, off, s)) := by
 unfold xv xX;simp only [beq_self, cond_true];rw [jS (n := d4 + 1) (by omega)]
 by_cases h : d2 < 0
 ·rw [jh h, if_pos h]; rfl
 ·rw [qW h, if_neg h, jS (n := d2 - 1) (by omega)]
  by_cases h0 : d2 = 0
  ·subst h0;rw [jh (by omega), if_pos rfl]
   simp only [cond_true, cond_false];rw [show (0 : Int) - 1 = -1 from rfl, zkb _ _ _ _ _ _ _ hl hc ok]
   rfl
  ·rw [qW (by omega), if_neg h0]; rfl
theorem ztq (l : List (Int × List Int)) (d2 : Int) (d3 : List Int × Int × Int) (d4 : Int) (off : Bool) (s : List (List Int)) : qH l d2 d3 d4 off s = some (off, l, d2, d3, d4, false, s) := by
 unfold qH;simp only [beq_self, cond_true];cases off <;> rfl
def z3y : List (Int × List Int) -> List (List Int) -> List (List Int)
 | [], s => s
 | w :: ws, s => z3y ws (s.set w.1.toNat w.2)
theorem zir : ∀ (l : List (Int × List Int)) (s : List (List Int)), (z3y l s).length = s.length
 | [], _ => rfl
 | w :: ws, s => by simp only [z3y]; rw [zir ws, kP]
theorem zr9 {sure : List (List Int)} {w : Int × List Int} (hs : ∀ x, x ∈ sure -> x.length = 256) (h2 : w.2.length = 256) : ∀ x, x ∈ sure.set w.1.toNat w.2 -> x.length = 256 := fun x hx => by
 rcases List.mem_or_eq_of_mem_set hx with hx | rfl
 ·exact hs x hx
 ·exact h2
theorem zbs (loose d : List (Int × List Int)) (d2 : Int) (d3 : List Int × Int × Int) (d4 : Int) (d5 : Bool) (hl : loose.length < 1000000) :
  ∀ (k i : Nat) (sure : List (List Int)), i + k = loose.length -> OkD loose sure ->
   zn zq (loose, (loose.length : Nat), (i : Int), d, d2, d3, d4, d5, sure) = some (d, d2, d3, d4, d5, z3y (loose.drop i) sure)
 | 0, i, sure, h, ok => by
  rw [qF, show zq (loose, (loose.length : Nat), (i : Int), d, d2, d3, d4, d5, sure) = zX loose (loose.length : Nat) (i : Int) d d2 d3 d4 d5 sure from rfl]
  unfold zX;rw [qW (by simp; omega), kI (by omega)]
  simp only [beq_self, cond_true, cond_false, kC, Sum.elim_inr, z3y]
 | k + 1, i, sure, h, ok => by
  have hi : i < loose.length := by omega
  have hw := ok.w _ (kH hi);have hlt : loose[i].1.toNat < sure.length := by omega
  rw [qF, show zq (loose, (loose.length : Nat), (i : Int), d, d2, d3, d4, d5, sure) = zX loose (loose.length : Nat) (i : Int) d d2 d3 d4 d5 sure from rfl]
  unfold zX;rw [jh (by omega), z79, kG hi]
  simp only [kC, cond_true];rw [z87 (by omega), kG hlt, kP, beq_self]
  simp only [cond_true, kC, Sum.elim_inl];rw [jS (by omega), show ((i : Int) + 1) = ((i + 1 : Nat) : Int) by simp, zbs loose d d2 d3 d4 d5 hl k (i + 1) _ (by omega)
   ⟨zr9 ok.s hw.2.2, fun w hm => by rw [kP]; exact ok.w w hm⟩, kL hi]
  rfl
variable {x : xo}
theorem ztz {c : List Int × Int × Int} (h : OkDev x) : OkDev (z5l c x) := by
 unfold z5l;split
 ·exact h
 ·have key : ∀ (l : List (Int × List Int)) (k : Nat) (s : List (List Int)), OkD l s -> ∀ y, y ∈ z70 c l k s -> y.length = 256 := by
   intro l
   induction l with
   | nil => intro k s ok; exact ok.s
   | cons w ws ih =>
    intro k s ok;have hw := ok.w w (by simp)
    have ht := zf8 c k;exact ih (k + 1) _ ⟨zhk ok.s hw.1 hw.2.1 hw.2.2 (by omega), fun v hv => by rw [z4l]; exact ok.w v (by simp [hv])⟩
  exact ⟨⟨key _ _ _ h.d, fun w hw => by cases hw⟩, by simp, by simp, h.c, h.n, by simp only [zeo]; exact h.s⟩
def z6y (x : xo) : Int × xo :=
 if x.2.2.2.2.1 then (6, x)
 else if (xX x).1 ≠ 0 then xX x
 else (0, [], (xX x).2.2.1, (xX x).2.2.2.1, (xX x).2.2.2.2.1, (xX x).2.2.2.2.2.1, z3y (xX x).2.1 (xX x).2.2.2.2.2.2)
theorem zpy (h : OkD x.1 x.2.2.2.2.2) (hl : x.1.length < 1000000) : (xX x).1 = 0 -> OkD (xX x).2.1 (xX x).2.2.2.2.2.2 /\ (xX x).2.1.length < 1000000 := fun h0 => by
 unfold xX at h0 ⊢;split at h0
 ·rename_i h1; rw [if_pos h1]; exact ⟨h, hl⟩
 ·rename_i h1;rw [if_neg h1];split at h0
  ·exact absurd h0 (by simp)
  ·rename_i h2; rw [if_neg h2]; exact ⟨h, hl⟩
theorem zff (l : List (Int × List Int)) (d2 : Int) (d3 : List Int × Int × Int) (d4 : Int) (off : Bool) (s : List (List Int)) (h : OkDev (l, d2, d3, d4, off, s)) :
  yM l d2 d3 d4 off s = some (z6y (l, d2, d3, d4, off, s)) := by
 have hl := h.l;have h2 := h.left;have h4 := h.n;simp only at hl h2 h4;unfold yM yX z6y;rw [xn _ _ rfl];simp only [kC, beq_self, cond_true];cases off with
 | true => rfl
 | false =>
  rw [zbz l d2 d3 d4 false s (by omega) h.c h2 h4 h.d]
  simp only [cond_false, kT, if_false, kC, beq_self, cond_true];have hc := zpy (x := (l, d2, d3, d4, false, s)) h.d (by simp only; omega)
  generalize xX (l, d2, d3, d4, false, s) = r at hc
  by_cases h0 : r.1 = 0
  ·rw [z02 h0, if_neg (by simp [h0])]
   obtain ⟨c1, c2⟩ := hc h0;simp only [cond_false];rw [yN (by omega)]
   have := zbs r.2.1 r.2.1 r.2.2.1 r.2.2.2.1 r.2.2.2.2.1 r.2.2.2.2.2.1 c2 r.2.1.length 0 r.2.2.2.2.2.2 (by omega) c1
   rw [show ((0 : Nat) : Int) = 0 from rfl] at this
   rw [this];simp only [kC, beq_self, cond_true, kc]
  ·rw [zdm h0, if_pos h0]; rfl
theorem zt9 {α : Type} (l : List α) : vN l 0 (l.length : Int) = l := by
 simp [vN]
theorem zmt (l : List (Int × List Int)) (hl : l.length < 1000000) : z2h l = some l := by
 unfold z2h;rw [yN (by omega), yN (by omega), zun, zjf rfl, zt9]
 rfl
theorem zjr {R : Type} {n m nb : Nat} (h : (n + m) * nb <= 140737488355328) (k : Unit -> Option R) : z3h n m nb k = k () := by
 unfold z3h; rw [kj.mpr h]; rfl
def z7t (x : xo) (i : Int) (b : List Int) : Int × xo :=
 if z1e x.2.2.2.2.1 x.2.2.2.2.2.length i ≠ 0 then (z1e x.2.2.2.2.1 x.2.2.2.2.2.length i, x)
 else if b.length ≠ 256 then (1, x)
 else xX (x.1 ++ [(i, b)], x.2)
theorem zna (b : List Int) (h : b.length = 256) : qC (kD 256 (0 : Int)) 0 256 b = b := by
 have := zh7 (kD 256 (0 : Int)) b;rw [kE] at this;rw [this, kb, h, kW (by omega)]
 simp
theorem ztd {off : Bool} {n : Nat} {i : Int} (h : z1e off n i = 0) : 0 <= i /\ i < n := by
 unfold z1e at h;split at h
 ·cases h
 ·split at h
  ·assumption
  ·cases h
theorem OkDev.add (h : OkDev x) {i : Int} {b : List Int} (hi : 0 <= i /\ i < x.2.2.2.2.2.length) (hb : b.length = 256) : OkD (x.1 ++ [(i, b)]) x.2.2.2.2.2 :=
 ⟨h.d.s, fun w hw => by
  rcases ki.1 hw with hw | hw
  ·exact h.d.w w hw
  ·simp only [kQ] at hw; subst hw; exact ⟨hi.1, hi.2, hb⟩⟩
theorem zm7 (i : Int) (b : List Int) (l : List (Int × List Int)) (d2 : Int) (d3 : List Int × Int × Int) (d4 : Int) (off : Bool) (s : List (List Int)) (h : OkDev (l, d2, d3, d4, off, s)) (hb : b.length < 1000000) :
  xd i b l d2 d3 d4 off s = some (z7t (l, d2, d3, d4, off, s) i b) := by
 have hl := h.l;have h2 := h.left;have h4 := h.n;simp only at hl h2 h4;unfold xd z7t;rw [xn _ _ rfl, zl2 _ _ _ _ _ _ _ h.s];simp only [kC, beq_self, cond_true]
 by_cases hw : z1e off s.length i = 0
 ·rw [z02 hw, if_neg (by simpa using hw), yN (by omega)]
  by_cases hbl : b.length = 256
  ·rw [z02 (by omega), if_neg (by simpa using hbl), kE, zaa, zmt l (by omega)]
   simp only [cond_false, cond_true, kC];rw [zjr (by simp only [List.length_singleton]; omega), zna b hbl, zbz (l ++ [(i, b)]) d2 d3 d4 off s (by simp; omega) h.c h2 h4 (h.add (ztd hw) hbl)]
   rfl
  ·rw [zdm (by omega), if_pos hbl]; rfl
 ·rw [zdm hw, if_pos hw]; rfl
theorem zrj (i : Int) (b : List Int) (l : List (Int × List Int)) (d2 : Int) (d3 : List Int × Int × Int) (d4 : Int) (off : Bool) (s : List (List Int)) (h : OkDev (l, d2, d3, d4, off, s)) (hb : b.length < 1000000) :
  xL i l d2 d3 d4 off b s = some ((fun r : Int × xo => (r.1, r.2.1, r.2.2.1, r.2.2.2.1, r.2.2.2.2.1, r.2.2.2.2.2.1, b, r.2.2.2.2.2.2)) (z7t (l, d2, d3, d4, off, s) i b)) := by
 have hl := h.l;have h2 := h.left;have h4 := h.n;simp only at hl h2 h4;unfold xL z7t;rw [xn _ _ rfl, zl2 _ _ _ _ _ _ _ h.s];simp only [kC, beq_self, cond_true]
 by_cases hw : z1e off s.length i = 0
 ·rw [z02 hw, if_neg (by simpa using hw), yN (by omega)]
  by_cases hbl : b.length = 256
  ·rw [z02 (by omega), if_neg (by simpa using hbl), xn _ _ rfl, kE, zaa, zmt l (by omega)]
   simp only [cond_false, cond_true, kC];rw [zjr (by simp only [List.length_singleton]; omega), zna b hbl, zbz (l ++ [(i, b)]) d2 d3 d4 off s (by simp; omega) h.c h2 h4 (h.add (ztd hw) hbl)]
   rfl
  ·rw [zdm (by omega), if_pos hbl]; rfl
 ·rw [zdm hw, if_pos hw]; rfl
def z03 : List (Int × List Int) -> Int -> List Int -> List Int
 | [], _, x => x
 | w :: ws, i, x => z03 ws i (if w.1 = i then w.2 else x)
theorem zd0 (i : Int) (loose d : List (Int × List Int)) (d2 : Int) (d3 : List Int × Int × Int) (d4 : Int) (d5 : Bool) (s : List (List Int)) (hl : loose.length < 1000000) :
  ∀ (k j : Nat) (x : List Int), j + k = loose.length ->
   zn zx (i, loose, (loose.length : Nat), (j : Int), d, d2, d3, d4, d5, x, s) = some (d, d2, d3, d4, d5, z03 (loose.drop j) i x, s)
 | 0, j, x, h => by
  rw [qF, show zx (i, loose, (loose.length : Nat), (j : Int), d, d2, d3, d4, d5, x, s) = yq i loose (loose.length : Nat) (j : Int) d d2 d3 d4 d5 x s from rfl]
  unfold yq;rw [qW (by simp; omega), kI (by omega)]
  simp only [beq_self, cond_true, cond_false, kC, Sum.elim_inr, z03]
 | k + 1, j, x, h => by
  have hj : j < loose.length := by omega
  rw [qF, show zx (i, loose, (loose.length : Nat), (j : Int), d, d2, d3, d4, d5, x, s) = yq i loose (loose.length : Nat) (j : Int) d d2 d3 d4 d5 x s from rfl]
  unfold yq;rw [jh (by omega), z79, kG hj]
  simp only [kC, cond_true, beq_self];rw [jS (by omega), show ((j : Int) + 1) = ((j + 1 : Nat) : Int) by simp, kL hj]
  by_cases h1 : loose[j].1 = i
  ·rw [zjf h1];simp only [cond_true, kC, Sum.elim_inl];rw [zd0 i loose d d2 d3 d4 d5 s hl k (j + 1) _ (by omega)]
   simp only [z03, h1, if_true]
  ·rw [ztj h1];simp only [cond_false, kC, Sum.elim_inl];rw [zd0 i loose d d2 d3 d4 d5 s hl k (j + 1) _ (by omega)]
   simp only [z03, if_neg h1]
theorem zl9 : ∀ (l : List (Int × List Int)) (i : Int) (x : List Int), (∀ w, w ∈ l -> w.2.length = 256) -> x.length = 256 -> (z03 l i x).length = 256
 | [], _, _, _, h => h
 | w :: ws, i, x, hw, h => by
  simp only [z03];refine zl9 ws i _ (fun v hv => hw v (by simp [hv])) ?_
  split
  ·exact hw w (by simp)
  ·exact h
def z6d (x : xo) (i : Int) : Int × List Int :=
 if z1e x.2.2.2.2.1 x.2.2.2.2.2.length i ≠ 0 then (z1e x.2.2.2.2.1 x.2.2.2.2.2.length i, []) else (0, z03 x.1 i ((x.2.2.2.2.2[i.toNat]?).getD []))
theorem zn9 (i : Int) (l : List (Int × List Int)) (d2 : Int) (d3 : List Int × Int × Int) (d4 : Int) (off : Bool) (s : List (List Int)) (h : OkDev (l, d2, d3, d4, off, s)) :
  xq i l d2 d3 d4 off s = some ((z6d (l, d2, d3, d4, off, s) i).1, l, d2, d3, d4, off, (z6d (l, d2, d3, d4, off, s) i).2, s) := by
 have hl := h.l;simp only at hl;unfold xq z6d;rw [xn _ _ rfl, zl2 _ _ _ _ _ _ _ h.s];simp only [kC, beq_self, cond_true]
 by_cases hw : z1e off s.length i = 0
 ·obtain ⟨h0, h1⟩ := ztd hw;have hlt : i.toNat < s.length := by omega
  have hx := h.d.s _ (kH hlt);rw [z02 hw, if_neg (by simpa using hw), z87 (by omega), kG hlt]
  simp only [cond_false, cond_true, kC, kZ];rw [yN (by omega)]
  have := zd0 i l l d2 d3 d4 off s (by omega) l.length 0 s[i.toNat] (by omega)
  rw [show ((0 : Nat) : Int) = 0 from rfl] at this
  rw [this];simp only [kC, kc];rw [zl9 l i _ (fun w hw => (h.d.w w hw).2.2) hx, beq_self]
  first | rfl | (simp only [beq_self, cond_true])
 ·rw [zdm hw, if_pos hw]; rfl
def zcr (n : Nat) : xo := ([], -1, ([], 0, 0), 0, false, kD n (kD 256 0))
theorem zqf (n : Int) (h : 1 <= n /\ n <= 4096) : z0u n = some (0, zcr n.toNat) := by
 unfold z0u zcr zji;rw [qW (by omega), qW (by omega), z8b (by omega), z8b (by omega), kE, beq_self]
 rfl
theorem zu5 (n : Nat) (hn : n < 1000000) : OkDev (zcr n) where
 d := ⟨fun x hx => by
  have := List.eq_of_mem_replicate hx;rw [this, kE], fun w hw => by cases hw⟩
 l := kJ _
 left := show -1 <= (-1 : Int) /\ (-1 : Int) <= 9223372036854775807 from ⟨by decide, by decide⟩
 c := kJ _
 n := show 0 <= (0 : Int) /\ (0 : Int) < 1000000000 from ⟨by decide, by decide⟩
 s := by show (kD n _).length < _; rw [kE]; exact hn
theorem z0y (c : Int) (t : List Int) : (yh c t).length = 256 := by unfold yh; rw [kU, kY, kE]; omega
def xj : List Int := kD 256 0
theorem zsd : jP = some true := by
 have o0 : OkDev ([], -1, ([], 0, 0), 0, false, [xj, xj]) := zu5 2 (by omega)
 have o1 : OkDev ([(1, yh 120 [])], -1, ([], 0, 0), 1, false, [xj, xj]) :=
  ⟨⟨o0.d.s, fun w hw => by simp only [kQ] at hw; subst hw; exact ⟨by decide, by decide, z0y _ _⟩⟩, kK rfl, ⟨by decide, by decide⟩, kJ _, ⟨by decide, by decide⟩, kK rfl⟩
 have hs2 : ∀ y, y ∈ [xj, yh 120 []] -> y.length = 256 := fun y hy => by
  simp only [km, List.not_mem_nil, or_false] at hy;rcases hy with rfl | rfl
  ·exact kE ..
  ·exact z0y _ _
 have o2 : OkDev ([], -1, ([], 0, 0), 2, false, [xj, yh 120 []]) := ⟨⟨hs2, fun w hw => by cases hw⟩, kJ _, ⟨by decide, by decide⟩, kJ _, ⟨by decide, by decide⟩, kK rfl⟩
 have o3 : OkDev ([(1, yh 121 [])], -1, ([], 0, 0), 3, false, [xj, yh 120 []]) :=
  ⟨⟨hs2, fun w hw => by simp only [kQ] at hw; subst hw; exact ⟨by decide, by decide, z0y _ _⟩⟩, kK rfl, ⟨by decide, by decide⟩, kJ _, ⟨by decide, by decide⟩, kK rfl⟩
 have w1 : xd 1 (yh 120 []) [] (-1) ([], 0, 0) 0 false [xj, xj] = some (0, [(1, yh 120 [])], -1, ([], 0, 0), 1, false, [xj, xj]) := by
  rw [zm7 _ _ _ _ _ _ _ _ o0 (by rw [z0y]; omega)]; kernel_rfl
 have b1 : yM [(1, yh 120 [])] (-1) ([], 0, 0) 1 false [xj, xj] = some (0, [], -1, ([], 0, 0), 2, false, [xj, yh 120 []]) := by
  rw [zff _ _ _ _ _ _ o1]; kernel_rfl
 have w2 : xd 1 (yh 121 []) [] (-1) ([], 0, 0) 2 false [xj, yh 120 []] = some (0, [(1, yh 121 [])], -1, ([], 0, 0), 3, false, [xj, yh 120 []]) := by
  rw [zm7 _ _ _ _ _ _ _ _ o2 (by rw [z0y]; omega)]; kernel_rfl
 have c1 : yW ([], 0, 2) [(1, yh 121 [])] (-1) ([], 0, 0) 3 false [xj, yh 120 []] = some ([], -1, ([], 0, 0), 3, true, [xj, yh 120 [121, 121]]) := by
  rw [zkb ([], 0, 2) [(1, yh 121 [])] (-1) ([], 0, 0) 3 false [xj, yh 120 []] (by decide) (by decide) o3.d]; kernel_rfl
 have hs4 : ∀ y, y ∈ [xj, yh 120 [121, 121]] -> y.length = 256 := fun y hy => by
  simp only [km, List.not_mem_nil, or_false] at hy;rcases hy with rfl | rfl
  ·exact kE ..
  ·exact z0y _ _
 have o4 : OkDev ([], -1, ([], 0, 0), 3, false, [xj, yh 120 [121, 121]]) := ⟨⟨hs4, fun w hw => by cases hw⟩, kJ _, ⟨by decide, by decide⟩, kJ _, ⟨by decide, by decide⟩, kK rfl⟩
 have r1 : xq 1 [] (-1) ([], 0, 0) 3 false [xj, yh 120 [121, 121]] = some (0, [], -1, ([], 0, 0), 3, false, yh 120 [121, 121], [xj, yh 120 [121, 121]]) := by
  rw [zn9 _ _ _ _ _ _ _ o4]; kernel_rfl
 unfold jP;rw [zqf 2 (by omega), show zcr (2 : Int).toNat = ([], -1, ([], 0, 0), 0, false, [xj, xj]) from rfl]
 simp only [kC, beq_self, cond_true, zmz, z02, cond_false];rw [w1];simp only [kC, beq_self, cond_true, cond_false, z02];rw [b1];simp only [kC, beq_self, cond_true, cond_false, zmz, z02];rw [w2];simp only [kC, beq_self, cond_true, cond_false, z02];rw [c1];simp only [kC];rw [xn _ _ rfl];rw [show yX ([xj, yh 120 [121, 121]], [], -1, ([], 0, 0), 3, true) = some true from rfl]
 simp only [kC, kS, cond_false, beq_self, cond_true];rw [ztq];simp only [kC, kS, cond_false, beq_self, cond_true];rw [r1];simp only [kC];rw [xn _ _ rfl];simp only [zjf rfl, cond_true, kC];rw [show eqS (yh 120 [121, 121]) (yh 120 [121, 121]) = true from decide_eq_true rfl]
def onD (x : xo) : xo := (x.1, x.2.1, x.2.2.1, x.2.2.2.1, false, x.2.2.2.2.2)
theorem zw1 (x : xo) : qH x.1 x.2.1 x.2.2.1 x.2.2.2.1 x.2.2.2.2.1 x.2.2.2.2.2 = some (x.2.2.2.2.1, onD x) := ztq _ _ _ _ _ _
theorem zm6 (i : Int) (b : List Int) (x : xo) (h : OkDev x) (hb : b.length < 1000000) : xL i x.1 x.2.1 x.2.2.1 x.2.2.2.1 x.2.2.2.2.1 b x.2.2.2.2.2 = some ((fun r : Int × xo => (r.1, r.2.1, r.2.2.1, r.2.2.2.1, r.2.2.2.2.1, r.2.2.2.2.2.1, b, r.2.2.2.2.2.2)) (z7t x i b)) := zrj i b _ _ _ _ _ _ h hb
theorem zpq (x : xo) (h : OkDev x) : yM x.1 x.2.1 x.2.2.1 x.2.2.2.1 x.2.2.2.2.1 x.2.2.2.2.2 = some (z6y x) := zff _ _ _ _ _ _ h
theorem zva (i : Int) (x : xo) (h : OkDev x) : xq i x.1 x.2.1 x.2.2.1 x.2.2.2.1 x.2.2.2.2.1 x.2.2.2.2.2 = some ((z6d x i).1, x.1, x.2.1, x.2.2.1, x.2.2.2.1, x.2.2.2.2.1, (z6d x i).2, x.2.2.2.2.2) := zn9 i _ _ _ _ _ _ h
theorem zvf (c : List Int × Int × Int) (x : xo) (h : OkDev x) (hc : c.1.length < 1000000) : yW c x.1 x.2.1 x.2.2.1 x.2.2.2.1 x.2.2.2.2.1 x.2.2.2.2.2 = some (z5l c x) := zkb c _ _ _ _ _ _ (by have := h.l; omega) hc h.d
structure Fine (n m : Nat) (x : xo) (last : List (List Int)) : Prop where
 d : OkD x.1 x.2.2.2.2.2
 l : (x.1.length : Int) <= x.2.2.2.1
 left : x.2.1 = -1
 c : x.2.2.1.1.length < 1000000
 ch : 0 <= x.2.2.2.1 /\ x.2.2.2.1 <= m
 off : x.2.2.2.2.1 = false
 s : x.2.2.2.2.2.length = n
 len : last.length = n
 now : ∀ k, k < n -> last[k]? = some (z03 x.1 (k : Int) ((x.2.2.2.2.2[k]?).getD []))
theorem Fine.ok {n m : Nat} {last : List (List Int)} (h : Fine n m x last) (hn : n < 1000000) (hm : m < 900000) : OkDev x :=
 ⟨h.d, by have := h.l; have := h.ch; omega, by rw [h.left]; decide, h.c, by have := h.ch; omega, by rw [h.s]; exact hn⟩
theorem zl8 (i : Int) (b : List Int) (k : Int) : ∀ (l : List (Int × List Int)) (x : List Int), z03 (l ++ [(i, b)]) k x = if i = k then b else z03 l k x
 | [], x => by simp [z03]
 | w :: ws, x => by
  simp only [List.cons_append, z03];exact zl8 i b k ws _
theorem zlv : ∀ (l : List (Int × List Int)) (s : List (List Int)) (k : Nat), (∀ w, w ∈ l -> 0 <= w.1) -> k < s.length -> (z3y l s)[k]? = some (z03 l (k : Int) ((s[k]?).getD []))
 | [], s, k, _, hk => by simp [z3y, z03, hk]
 | w :: ws, s, k, hw, hk => by
  simp only [z3y, z03];have h0 := hw w (by simp)
  rw [zlv ws _ k (fun v hv => hw v (by simp [hv])) (by rw [kP]; exact hk)]
  by_cases h : w.1 = (k : Int)
  ·rw [if_pos h, h, kM, kV hk]; rfl
  ·rw [if_neg h, k9 (by omega)]
theorem ze6 (h : x.2.1 = -1) : xX x = (0, x.1, x.2.1, x.2.2.1, x.2.2.2.1 + 1, x.2.2.2.2.1, x.2.2.2.2.2) := by
 unfold xX; rw [h, if_pos (by omega)]
theorem zis : ∀ (l : List (Int × List Int)) (s : List (List Int)), OkD l s -> ∀ y, y ∈ z3y l s -> y.length = 256
 | [], _, ok => ok.s
 | w :: ws, s, ok => zis ws _ ⟨zr9 ok.s (ok.w w (by simp)).2.2, fun v hv => by rw [kP]; exact ok.w v (by simp [hv])⟩
theorem Fine.write {n m : Nat} {last : List (List Int)} (h : Fine n m x last) {i : Int} (hi : 0 <= i /\ i < n) {b : List Int} (hb : b.length = 256) :
  ∃ y, z7t x i b = (0, y) /\ Fine n (m + 1) y (last.set i.toNat b) /\ y.1 = x.1 ++ [(i, b)] /\ y.2.2.2.1 = x.2.2.2.1 + 1 /\ y.2.2.2.2.2 = x.2.2.2.2.2 := by
 have hw : z1e x.2.2.2.2.1 x.2.2.2.2.2.length i = 0 := by unfold z1e; rw [h.off, h.s, if_neg (by simp), if_pos hi]
 unfold z7t;rw [hw, if_neg (by simp), if_neg (by simpa using hb), ze6 (by exact h.left)]
 refine ⟨_, rfl, ?_, rfl, rfl, rfl⟩;have hn := h.ch;have hl := h.l;refine ⟨⟨h.d.s, fun w hm => ?_⟩, by simp; omega, h.left, h.c, by simp; omega, h.off, h.s, by rw [kP]; exact h.len, fun k hk => ?_⟩
 ·rcases ki.1 hm with hm | hm
  ·exact h.d.w w hm
  ·simp only [kQ] at hm; subst hm; exact ⟨hi.1, by simp only; rw [h.s]; exact hi.2, hb⟩
 ·simp only;rw [zl8]
  by_cases e : i = (k : Int)
  ·rw [if_pos e, e, kM, kV (by rw [h.len]; exact hk)]
  ·rw [if_neg e, k9 (by omega), h.now k hk]
theorem Fine.barrier {n m : Nat} {last : List (List Int)} (h : Fine n m x last) :
  ∃ y, z6y x = (0, y) /\ Fine n (m + 1) y last /\ y.1 = [] /\ y.2.2.2.1 = x.2.2.2.1 + 1 /\ y.2.2.2.2.2 = last := by
 have hs : z3y x.1 x.2.2.2.2.2 = last := by
  refine List.ext_getElem? fun k => ?_
  by_cases hk : k < n
  ·rw [h.now k hk, zlv _ _ k (fun w hw => (h.d.w w hw).1) (by rw [h.s]; exact hk)]
  ·rw [List.getElem?_eq_none (by rw [zir, h.s]; omega), List.getElem?_eq_none (by rw [h.len]; omega)]
 unfold z6y;rw [h.off, if_neg (by simp), ze6 h.left]
 simp only [ne_eq, not_true_eq_false, if_false];refine ⟨_, rfl, ?_, rfl, rfl, by simp only [hs]⟩
 have hn := h.ch;refine ⟨⟨fun y hy => zis _ _ h.d y hy, fun w hw => by cases hw⟩, by simp; omega, h.left, h.c, by simp; omega, h.off, by simp only [hs]; exact h.len, h.len, fun k hk => ?_⟩
 simp only [z03, hs];rw [kG (by rw [h.len]; exact hk)]; rfl
theorem Fine.read {n m : Nat} {last : List (List Int)} (h : Fine n m x last) {k : Nat} (hk : k < n) : ∃ b, last[k]? = some b /\ z6d x (k : Int) = (0, b) := by
 refine ⟨_, h.now k hk, ?_⟩;unfold z6d;rw [show z1e x.2.2.2.2.1 x.2.2.2.2.2.length (k : Int) = 0 by unfold z1e; rw [h.off, h.s, if_neg (by simp), if_pos (by omega)]]
 simp
theorem Fine.new (n : Nat) : Fine n 0 (zcr n) (kD n xj) where
 d := ⟨fun x hx => by
  have := List.eq_of_mem_replicate hx;rw [this, kE], fun w hw => by cases hw⟩
 l := ko 0
 left := rfl
 c := kJ _
 ch := ⟨ko 0, ko 0⟩
 off := rfl
 s := kE ..
 len := kE ..
 now := fun k hk => by
  show (kD n xj)[k]? = some (z03 [] _ (((kD n (kD 256 (0 : Int)))[k]?).getD []));rw [List.getElem?_replicate, List.getElem?_replicate, if_pos hk, if_pos hk]; rfl
theorem Fine.mono {n m m' : Nat} {last : List (List Int)} (h : Fine n m x last) (hm : m <= m') : Fine n m' x last :=
 ⟨h.d, h.l, h.left, h.c, by have := h.ch; omega, h.off, h.s, h.len, h.now⟩
theorem zo7 (c : Int) (t : List Int) (m : Nat) (hm : m < 1000000) : zn zR (c, t, (m : Int), 0, kD m 0) = some (t, kD m c) := by
 have := z7g zR (fun i => (c, t, (m : Int), (i : Int), kD i c ++ kD (m - i) (0 : Int))) (fun _ => (t, kD m c)) m ?_ ?_
 ·simpa using this
 ·unfold zR jU;rw [qW (by simp), beq_self]
  simp
 ·intro i hi;refine .inl ⟨?_, rfl⟩;unfold zR jU;have hl : (kD i c ++ kD (m - i) (0 : Int)).length = m := by simp; omega
  have hset : (kD i c ++ kD (m - i) (0 : Int)).set i c = kD (i + 1) c ++ kD (m - (i + 1)) 0 := by
   rw [k0 _ _ (by simp), kE, kR, show m - i = (m - (i + 1)) + 1 by omega, kN, ke, ka (n := i), kg]
   rfl
  have hget : (kD i c ++ kD (m - i) (0 : Int))[i]? = some 0 := by
   rw [kO (by simp), kE, kR, show m - i = (m - (i + 1)) + 1 by omega, kN]; rfl
  have hset2 : (kD (i + 1) c ++ kD (m - (i + 1)) (0 : Int)).length = m := by simp; omega
  simp only [kM, hl, hset, hset2, hget, kC];rw [jh (by omega), z87 (by omega), jS (by omega), beq_self]
  rfl
theorem zkn (c : Int) (t : List Int) : z13 c t = some (yh c t) := by
 unfold z13;have h0 := zo7 c t 256 (by omega)
 rw [show ((256 : Nat) : Int) = 256 from rfl] at h0
 have e : qC (kD 256 c) 0 256 t = yh c t := by
  have := zh7 (kD 256 c) t;rw [kE] at this;rw [this, yh, kb]
 have hl : 256 = (yh c t).length := by unfold yh; rw [kU, kY, kE]; omega
 rw [h0];simp only [kC, kE];rw [e, <- hl, beq_self, zaa];rfl
abbrev OpT := Int × Int × Int × List Int × Bool × (List Int × Int × Int)
def z5q (o : OpT) : Prop := o.2.2.2.1.length <= 300 /\ o.2.2.2.2.2.1.length <= 70
instance (o : OpT) : Decidable (z5q o) := inferInstanceAs (Decidable (_ /\ _))
theorem zlc (a n : Int) (hn : 1 <= n /\ n <= 10) : 0 <= W64 ((zQ a).tmod n) /\ W64 ((zQ a).tmod n) < n := by
 have h := z1u .u64 a;simp only [IntKind.min, IntKind.max, IntKind.bits, IntKind.signed] at h;have h0 : 0 <= zQ a := by simpa using h.1
 rw [Int.tmod_eq_emod_of_nonneg h0];have h1 := Int.emod_nonneg (zQ a) (b := n) (by omega)
 have h2 := Int.emod_lt_of_pos (zQ a) (b := n) (by omega)
 rw [jS (by omega)]
 exact ⟨h1, h2⟩
def zfh (o : OpT) : List Int := yh o.2.2.1 (vN o.2.2.2.1 0 (z2v (kA o.2.2.2.1 : Nat) 256))
theorem zac (o : OpT) : (zfh o).length = 256 := z0y _ _
theorem zl3 (l : List Int) : xG 0 (z2v (kA l : Nat) 256) (kA l) = true := by
 refine zvc ?_;unfold z2v; split <;> omega
theorem zi4 (l : List OpT) (hl : l.length <= 60) (hs : ∀ o, o ∈ l -> o.2.2.2.1.length <= 9223372036854775807 /\ o.2.2.2.2.2.1.length <= 9223372036854775807) : ∀ (k i : Nat), i + k = l.length -> (∀ o, o ∈ l.drop i -> z5q o) /\ zn ya (l, (l.length : Nat), (i : Int)) = some (.inl ()) \/ zn ya (l, (l.length : Nat), (i : Int)) = some (.inr false)
 | 0, i, h => by
  refine .inl ⟨fun o ho => ?_, ?_⟩
  ·rw [kI (by omega)] at ho; cases ho
  ·rw [qF, show ya (l, (l.length : Nat), (i : Int)) = qt l (l.length : Nat) (i : Int) from rfl]
   unfold qt;rw [qW (by omega)]; rfl
 | k + 1, i, h => by
  have hi : i < l.length := by omega
  have hb := hs _ (kH hi);have e : ya (l, (l.length : Nat), (i : Int)) = if z5q l[i] then some (.inl (l, ((l.length : Nat) : Int), ((i + 1 : Nat) : Int))) else some (.inr (.inr false)) := by
   show qt l (l.length : Nat) (i : Int) = _;unfold qt;rw [jh (by omega), z79, kG hi]
   simp only [kC, cond_true];rw [yN (by omega), yN (by omega)]
   by_cases h1 : l[i].2.2.2.1.length <= 300
   ·rw [qW (by omega)]
    by_cases h2 : l[i].2.2.2.2.2.1.length <= 70
    ·rw [qW (by omega), jS (by omega), if_pos (show z5q l[i] from ⟨h1, h2⟩)]; rfl
    ·rw [jh (by omega), if_neg (show ¬ z5q l[i] from fun h => h2 h.2)]; rfl
   ·rw [jh (by omega), if_neg (show ¬ z5q l[i] from fun h => h1 h.1)]; rfl
  rw [qF, e]
  by_cases hf : z5q l[i]
  ·rw [if_pos hf];rcases zi4 l hl hs k (i + 1) (by omega) with ⟨g1, g2⟩ | g
   ·refine .inl ⟨fun o ho => ?_, g2⟩
    rw [kL hi] at ho;rcases km.1 ho with rfl | ho
    ·exact hf
    ·exact g1 o ho
   ·exact .inr g
  ·rw [if_neg hf]; exact .inr rfl
theorem zmx (n : Int) (l : List OpT) (hl : l.length <= 9223372036854775807) (hs : ∀ o, o ∈ l -> o.2.2.2.1.length <= 9223372036854775807 /\ o.2.2.2.2.2.1.length <= 9223372036854775807) :
  (z1l n l = some true /\ 1 <= n /\ n <= 10 /\ l.length <= 60 /\ ∀ o, o ∈ l -> z5q o) \/ z1l n l = some false := by
 unfold z1l
 by_cases h1 : n < 1
 ·rw [jh h1]; exact .inr rfl
 rw [qW h1]
 by_cases h2 : 10 < n
 ·rw [jh h2]; exact .inr rfl
 rw [qW h2, yN hl]
 by_cases h3 : 60 < l.length
 ·rw [jh (by omega)]; exact .inr rfl
 rw [qW (by omega), yN hl]
 simp only [cond_false];rcases zi4 l (by omega) hs l.length 0 (by omega) with ⟨g1, g2⟩ | g
 ·rw [show ((0 : Nat) : Int) = 0 from rfl] at g2
  rw [g2];exact .inl ⟨rfl, by omega, by omega, by omega, by simpa using g1⟩
 ·rw [show ((0 : Nat) : Int) = 0 from rfl] at g
  rw [g]; exact .inr rfl
def zE (l : List (Int × List Int)) (k : Int) : List (List Int) := l.filterMap fun w => if w.1 = k then some w.2 else none
theorem zqc (l : List (Int × List Int)) (p : Int) (b : List Int) (k : Int) : zE (l ++ [(p, b)]) k = if p = k then zE l k ++ [b] else zE l k := by
 unfold zE;rw [List.filterMap_append]
 by_cases h : p = k
 ·simp [h]
 ·simp [h]
theorem zl1 (l : List (Int × List Int)) (k : Int) : (zE l k).length <= l.length := List.length_filterMap_le _ _
theorem zmu (c : List Int × Int × Int) (i : Nat) : ∀ (l : List (Int × List Int)) (k : Nat) (s : List (List Int)), OkD l s -> i < s.length -> ∀ b, (z70 c l k s)[i]? = some b ->
  s[i]? = some b \/ b ∈ zE l (i : Int) \/ ∃ j w, l[j]? = some w /\ w.1 = (i : Int) /\ ((k + j : Nat) : Int) = c.2.1
 | [], _, s, _, _, b, h => .inl h
 | w :: ws, k, s, ok, hi, b, h => by
  obtain ⟨w0, w1, w2⟩ := ok.w w (by simp)
  have hn := zf8 c k;have ok2 : OkD ws (z93 s w (vE c k).toNat) := ⟨zhk ok.s w0 w1 w2 (by omega), fun v hv => by rw [z4l]; exact ok.w v (by simp [hv])⟩
  have hmay : ∀ x, x ∈ zE ws (i : Int) -> x ∈ zE (w :: ws) (i : Int) := fun x hx => by
   unfold zE at hx ⊢;rw [List.mem_filterMap] at hx ⊢;obtain ⟨v, hv, e⟩ := hx;exact ⟨v, by simp [hv], e⟩
  rcases zmu c i ws (k + 1) _ ok2 (by rw [z4l]; exact hi) b (by simpa only [z70] using h) with g | g | ⟨j, v, g1, g2, g3⟩
  ·by_cases hw : w.1 = (i : Int)
   ·unfold z93 at g;rw [hw, kM, kV hi, kG hi, kZ] at g;have hl := ok.s _ (kH hi);unfold vE at g
    by_cases hc : (k : Int) ∈ c.1
    ·rw [if_pos hc] at g;rw [kW (by rw [w2]; decide), kI (by rw [hl]; decide), List.append_nil] at g
     refine .inr (.inl ?_);unfold zE;rw [List.mem_filterMap];exact ⟨w, by simp, by rw [if_pos hw]; exact g⟩
    ·rw [if_neg hc] at g
     by_cases ht : c.2.1 = (k : Int)
     ·exact .inr (.inr ⟨0, w, rfl, hw, by rw [ht]; simp⟩)
     ·rw [if_neg ht] at g;refine .inl ?_;rw [kG hi];simpa using g
   ·refine .inl ?_;unfold z93 at g;rw [k9 (by omega)] at g
    exact g
  ·exact .inr (.inl (hmay b g))
  ·refine .inr (.inr ⟨j + 1, v, by simpa using g1, g2, ?_⟩)
   rw [<- g3]; congr 1; omega
theorem zrb (sure loose : List OpT) (c : List Int × Int × Int) (x : xo) :
  zn zJ (sure, loose, 0, c, x.1, x.2.1, x.2.2.1, x.2.2.2.1, x.2.2.2.2.1, kD 6 [], x.2.2.2.2.2) = some (sure, loose, c, x.1, x.2.1, x.2.2.1, x.2.2.2.1, x.2.2.2.2.1, kD 6 xj, x.2.2.2.2.2) := by
 have := z7g zJ (fun i => (sure, loose, (i : Int), c, x.1, x.2.1, x.2.2.1, x.2.2.2.1, x.2.2.2.2.1, kD i xj ++ kD (6 - i) ([] : List Int), x.2.2.2.2.2))
  (fun _ => (sure, loose, c, x.1, x.2.1, x.2.2.1, x.2.2.2.1, x.2.2.2.2.1, kD 6 xj, x.2.2.2.2.2)) 6 ?_ ?_
 ·simpa using this
 ·show yE sure loose ((6 : Nat) : Int) c x.1 x.2.1 x.2.2.1 x.2.2.2.1 x.2.2.2.2.1 (kD 6 xj ++ kD (6 - 6) []) x.2.2.2.2.2 = _;unfold yE;rw [qW (by omega), beq_self]
  simp
 ·intro i hi;refine .inl ⟨?_, rfl⟩;show yE sure loose (i : Int) c x.1 x.2.1 x.2.2.1 x.2.2.2.1 x.2.2.2.2.1 (kD i xj ++ kD (6 - i) []) x.2.2.2.2.2 = _;unfold yE;have hset : (kD i xj ++ kD (6 - i) ([] : List Int)).set i xj = kD (i + 1) xj ++ kD (6 - (i + 1)) [] := by
   rw [k0 _ _ (by simp), kE, kR, show 6 - i = (6 - (i + 1)) + 1 by omega, kN, ke, ka (n := i), kg]
   rfl
  have hget : (kD i xj ++ kD (6 - i) ([] : List Int))[i]? = some [] := by
   rw [kO (by simp), kE, kR, show 6 - i = (6 - (i + 1)) + 1 by omega, kN]; rfl
  rw [jh (by omega), xn _ _ (by rw [kE])]
  rw [show kD 256 (0 : Int) = xj from rfl]
  simp only [kM, hset, hget, kC, beq_self, cond_true];rw [z87 (by omega), jS (by omega)]
  rfl
def zh3 (script loose : List OpT) (c : List Int × Int × Int) (i : Nat) (s : yY) : Prop :=
 ∃ (x : xo) (last : List (List Int)), Fine 6 i x last /\ s = (loose, script, ((script.length : Nat) : Int), (i : Int), c, x.1, x.2.1, x.2.2.1, x.2.2.2.1, x.2.2.2.2.1, last, x.2.2.2.2.2)
theorem zrd {script loose : List OpT} {c : List Int × Int × Int} (hs : script.length <= 60) (hf : ∀ o, o ∈ script -> z5q o) {i : Nat} (hi : i < script.length) {s} (h : zh3 script loose c i s) :
  ∃ s', zy s = some (.inl s') /\ zh3 script loose c (i + 1) s' := by
 obtain ⟨x, last, h, rfl⟩ := h;have ok := h.ok (by omega) (by omega)
 have hl := h.len;have ho := hf _ (kH hi);show ∃ s', yw loose script (script.length : Nat) (i : Int) c x.1 x.2.1 x.2.2.1 x.2.2.2.1 x.2.2.2.2.1 last x.2.2.2.2.2 = some (.inl s') /\ _;unfold yw;rw [jh (by omega), zkr hi]
 simp only [kC, cond_true];generalize script[i] = o at ho ⊢;obtain ⟨p0, p1⟩ := zlc o.2.1 6 (by omega)
 rw [yN (by have := ho.1; omega), zl3, zkn]
 simp only [kC, cond_true, cond_false, beq_self];rw [show yh o.2.2.1 (vN o.2.2.2.1 0 (z2v (kA o.2.2.2.1 : Nat) 256)) = zfh o from rfl]
 generalize W64 ((zQ o.2.1).tmod 6) = p at p0 p1 ⊢;rw [zm6 _ _ x ok (by rw [zac]; omega)]
 obtain ⟨y, e1, e2, e3, e4, _⟩ := h.write ⟨p0, p1⟩ (zac o);rw [e1];simp only [kC, z02 rfl, cond_false];rw [xn _ _ rfl, z87 (by omega), kG (show p.toNat < last.length by omega)]
 simp only [kC, cond_true, beq_self];refine ⟨_, rfl, y, _, e2, ?_⟩;rw [jS (by omega)]
 rfl
def za6 (script : List OpT) (c : List Int × Int × Int) (want : List (List Int)) (m i : Nat) (s : yi) : Prop :=
 ∃ (x : xo) (last : List (List Int)) (torn : Int), Fine 6 (m + i) x last /\ x.2.2.2.2.2 = want /\ x.1.length = i /\ (∀ (j : Nat) w, x.1[j]? = some w -> (j : Int) = c.2.1 -> torn = w.1) /\
  s = (torn, script, ((script.length : Nat) : Int), (i : Int), c, x.1, x.2.1, x.2.2.1, x.2.2.2.1, x.2.2.2.2.1, want, x.2.2.2.2.2, zE x.1 0, zE x.1 1, zE x.1 2, zE x.1 3, zE x.1 4, zE x.1 5)
theorem zog {script : List OpT} {c : List Int × Int × Int} {want : List (List Int)} {m : Nat} (hm : m <= 100) (hs : script.length <= 60) (hf : ∀ o, o ∈ script -> z5q o) {i : Nat} (hi : i < script.length) {s} (h : za6 script c want m i s) :
  ∃ s', zl s = some (.inl s') /\ za6 script c want m (i + 1) s' := by
 obtain ⟨x, last, torn, h, hw, hxl, ht, rfl⟩ := h;have ok := h.ok (by omega) (by omega)
 have hl := h.len;have ho := hf _ (kH hi);show ∃ s', zN torn script (script.length : Nat) (i : Int) c x.1 x.2.1 x.2.2.1 x.2.2.2.1 x.2.2.2.2.1 want x.2.2.2.2.2 (zE x.1 0) (zE x.1 1) (zE x.1 2) (zE x.1 3) (zE x.1 4) (zE x.1 5) = some (.inl s') /\ _;unfold zN;rw [jh (by omega), zkr hi]
 simp only [kC, cond_true];generalize script[i] = o at ho ⊢;obtain ⟨p0, p1⟩ := zlc o.2.1 6 (by omega)
 rw [yN (by have := ho.1; omega), zl3, zkn]
 simp only [kC, cond_true, cond_false, beq_self];rw [show yh o.2.2.1 (vN o.2.2.2.1 0 (z2v (kA o.2.2.2.1 : Nat) 256)) = zfh o from rfl, xn _ _ rfl]
 have hb := zac o;generalize zfh o = b at hb ⊢;generalize W64 ((zQ o.2.1).tmod 6) = p at p0 p1 ⊢;rw [zm6 _ _ x ok (by omega)]
 obtain ⟨y, e1, e2, e3, e4, e5⟩ := h.write ⟨p0, p1⟩ hb;rw [e1];have hfin : ∀ tn : Int, (∀ (j : Nat) w, y.1[j]? = some w -> (j : Int) = c.2.1 -> tn = w.1) -> ∀ s', s' = (tn, script, ((script.length : Nat) : Int), ((i + 1 : Nat) : Int), c, y.1, y.2.1, y.2.2.1, y.2.2.2.1, y.2.2.2.2.1, want, y.2.2.2.2.2, zE y.1 0, zE y.1 1, zE y.1 2, zE y.1 3, zE y.1 4, zE y.1 5) ->
   za6 script c want m (i + 1) s' := fun tn htn s' hs' => ⟨y, _, tn, e2, by rw [e5]; exact hw, by rw [e3]; simp [hxl], htn, hs'⟩
 have htorn : ∀ tn : Int, (tn = if (i : Int) = c.2.1 then p else torn) -> ∀ (j : Nat) w, y.1[j]? = some w -> (j : Int) = c.2.1 -> tn = w.1 := fun tn e j w hj hc => by
  rw [e3] at hj
  by_cases hji : j < x.1.length
  ·rw [List.getElem?_append_left hji] at hj;rw [e, if_neg (by omega)]; exact ht j w hj hc
  ·rw [kO (by omega)] at hj
   have : j = i := by
    have := (List.getElem?_eq_some_iff.1 hj).1;simp at this; omega
   subst this;rw [hxl, kR] at hj;simp at hj;subst hj;rw [e, if_pos hc]
 have hml : ∀ k, (zE x.1 k).length <= 60 := fun k => by have := zl1 x.1 k; omega
 have hmy : ∀ k, zE y.1 k = if p = k then zE x.1 k ++ [b] else zE x.1 k := fun k => by rw [e3]; exact zqc _ _ _ _
 simp only [kC, z02 rfl, cond_false];have hp : p = 0 \/ p = 1 \/ p = 2 \/ p = 3 \/ p = 4 \/ p = 5 := by omega
 rcases hp with rfl | rfl | rfl | rfl | rfl | rfl <;>
 ·simp only [eqI, k8, decide_true, decide_false, cond_true, cond_false, beq_self];rw [zjr (by have := hml 0; have := hml 1; have := hml 2; have := hml 3; have := hml 4; have := hml 5; simp only [List.length_cons, List.length_nil]; omega)]
  simp only [beq_self, cond_true, cond_false, kC]
  by_cases hc : (i : Int) = c.2.1
  ·rw [decide_eq_true hc];simp only [beq_self, cond_true, cond_false, kC];rw [jS (by omega)]
   refine ⟨_, rfl, hfin _ (htorn _ (by rw [if_pos hc])) _ ?_⟩
   simp only [hmy, k8, if_true, if_false];rfl
  ·rw [decide_eq_false hc];simp only [beq_self, cond_true, cond_false, kC];rw [jS (by omega)]
   refine ⟨_, rfl, hfin _ (htorn _ (by rw [if_neg hc])) _ ?_⟩
   simp only [hmy, k8, if_true, if_false];rfl
theorem zjq (torn : Int) (ok : Bool) (t1 t2 : Int) (t3 : Bool) (l : List (List Int)) (x : xo) (want m0 m1 m2 m3 m4 m5 : List (List Int)) (b : List Int) (hl : l.length <= 100) :
  zn za (torn, ok, t1, t2, t3, l, ((l.length : Nat) : Int), 0, x.1, x.2.1, x.2.2.1, x.2.2.2.1, x.2.2.2.2.1, want, m0, m1, m2, m3, m4, m5, b, x.2.2.2.2.2) =
   some (torn, ok || decide (b ∈ l), t1, t2, t3, x.1, x.2.1, x.2.2.1, x.2.2.2.1, x.2.2.2.2.1, want, m0, m1, m2, m3, m4, m5, x.2.2.2.2.2) := by
 have := z7g za (fun i => (torn, ok || decide (b ∈ l.take i), t1, t2, t3, l, ((l.length : Nat) : Int), (i : Int), x.1, x.2.1, x.2.2.1, x.2.2.2.1, x.2.2.2.2.1, want, m0, m1, m2, m3, m4, m5, b, x.2.2.2.2.2))
  (fun _ => (torn, ok || decide (b ∈ l), t1, t2, t3, x.1, x.2.1, x.2.2.1, x.2.2.2.1, x.2.2.2.2.1, want, m0, m1, m2, m3, m4, m5, x.2.2.2.2.2)) l.length ?_ ?_
 ·simpa using this
 ·show zg torn (ok || decide (b ∈ l.take l.length)) t1 t2 t3 l (l.length : Nat) (l.length : Nat) x.1 x.2.1 x.2.2.1 x.2.2.2.1 x.2.2.2.2.1 want m0 m1 m2 m3 m4 m5 b x.2.2.2.2.2 = _;unfold zg;rw [qW (by omega), List.take_length]
  simp only [beq_self, cond_true, cond_false]
 ·intro i hi;refine .inl ⟨?_, rfl⟩;show zg torn (ok || decide (b ∈ l.take i)) t1 t2 t3 l (l.length : Nat) (i : Int) x.1 x.2.1 x.2.2.1 x.2.2.2.1 x.2.2.2.2.1 want m0 m1 m2 m3 m4 m5 b x.2.2.2.2.2 = _;unfold zg;rw [jh (by omega), zkr hi]
  simp only [kC, cond_true, beq_self];rw [jS (by omega), List.take_succ_eq_append_getElem hi]
  cases hk : (ok || decide (b ∈ l.take i)) with
  | true =>
   have : (ok || decide (b ∈ l.take i ++ [l[i]])) = true := by
    rw [Bool.or_eq_true] at hk ⊢;exact hk.imp id fun h => decide_eq_true (List.mem_append_left _ (of_decide_eq_true h))
   rw [this]; rfl
  | false =>
   have e : (ok || decide (b ∈ l.take i ++ [l[i]])) = eqS b l[i] := by
    rw [Bool.or_eq_false_iff] at hk;rw [hk.1, Bool.false_or]
    by_cases hb : b = l[i]
    ·rw [ztl hb, decide_eq_true (by rw [hb]; exact List.mem_append_right _ (kQ.2 rfl))]
    ·rw [ztk hb, decide_eq_false (fun h => by
      rcases ki.1 h with h | h
      ·exact of_decide_eq_false hk.2 h
      ·exact hb (by simpa using h))]
   rw [e, cond_false, xn _ _ rfl]; rfl
theorem zrn (torn : Int) (x : xo) (hx : OkDev x) (h1 : x.1 = []) (hoff : x.2.2.2.2.1 = false) (hs : x.2.2.2.2.2.length = 6) (want : List (List Int)) (hwl : want.length = 6) (l : List (Int × List Int)) (hl : l.length <= 100)
  (hg : ∀ (i : Nat) b, i < 6 -> x.2.2.2.2.2[i]? = some b -> want[i]? = some b \/ b ∈ zE l (i : Int) \/ torn = (i : Int)) :
  zn zk (torn, 0, x.1, x.2.1, x.2.2.1, x.2.2.2.1, x.2.2.2.2.1, want, zE l 0, zE l 1, zE l 2, zE l 3, zE l 4, zE l 5, x.2.2.2.2.2) = some (.inl ()) := by
 have hml : ∀ k, (zE l k).length <= 100 := fun k => by have := zl1 l k; omega
 refine z7g zk (fun i => (torn, (i : Int), x.1, x.2.1, x.2.2.1, x.2.2.2.1, x.2.2.2.2.1, want, zE l 0, zE l 1, zE l 2, zE l 3, zE l 4, zE l 5, x.2.2.2.2.2)) (fun _ => .inl ()) 6 ?_ ?_
 ·show zD torn ((6 : Nat) : Int) x.1 x.2.1 x.2.2.1 x.2.2.2.1 x.2.2.2.2.1 want (zE l 0) (zE l 1) (zE l 2) (zE l 3) (zE l 4) (zE l 5) x.2.2.2.2.2 = _;unfold zD;rw [qW (by omega)]; rfl
 ·intro i hi;refine .inl ⟨?_, rfl⟩;show zD torn (i : Int) x.1 x.2.1 x.2.2.1 x.2.2.2.1 x.2.2.2.2.1 want (zE l 0) (zE l 1) (zE l 2) (zE l 3) (zE l 4) (zE l 5) x.2.2.2.2.2 = _;have hr : ∀ i : Nat, i < 6 -> ∃ b, x.2.2.2.2.2[i]? = some b /\ z6d x (i : Int) = (0, b) := fun i hi => by
   refine ⟨_, kG (by omega), ?_⟩
   unfold z6d;rw [show z1e x.2.2.2.2.1 x.2.2.2.2.2.length (i : Int) = 0 by unfold z1e; rw [hoff, hs, if_neg (by simp), if_pos (by omega)], h1]
   simp [z03, kG (show i < x.2.2.2.2.2.length by omega)]
  have hlo : ∀ w : List (List Int), jW (w, x.1, x.2.1, x.2.2.1, x.2.2.2.1, x.2.2.2.2.1) = some 0 := fun w => by
   unfold jW;rw [h1]; rfl
  obtain ⟨z, hz⟩ : ∃ z, want[i]? = some z := ⟨_, kG (by omega)⟩
  have hi6 : i = 0 \/ i = 1 \/ i = 2 \/ i = 3 \/ i = 4 \/ i = 5 := by omega
  unfold zD;rcases hi6 with rfl | rfl | rfl | rfl | rfl | rfl <;>
  ·obtain ⟨b, hb, hrd⟩ := hr _ hi;have hgg := hg _ b hi hb;rw [jh (by omega), beq_self, zva _ _ hx, hrd]
   simp only [kC, cond_true, cond_false, z02 rfl];rw [xn _ _ rfl, hlo];simp only [kC, cond_true, cond_false, z02 rfl];rw [xn _ _ rfl, z87 (by omega)]
   simp only [kM];rw [hz] at hgg ⊢;simp only [kC, cond_true, Option.some.injEq] at hgg ⊢
   by_cases hw : b = z
   ·rw [ztl hw];simp only [beq_self, cond_true, cond_false, kC, eqI, k8, decide_true, decide_false, Int.cast_ofNat_Int, Int.natCast_zero, Int.natCast_one];rw [yN (by first | (have := hml 0; omega) | (have := hml 1; omega) | (have := hml 2; omega) | (have := hml 3; omega) | (have := hml 4; omega) | (have := hml 5; omega))]
    simp only [kC];rw [zjq _ _ _ _ _ _ _ _ _ _ _ _ _ _ _ (hml _)];simp only [beq_self, cond_true, cond_false, kC, Bool.true_or, kS];rfl
   ·have hok : ∀ k : Int, k = ((_ : Nat) : Int) -> (decide (k = torn) || decide (b ∈ zE l k)) = true := fun k hk => by
     rcases hgg with e | e | e
     ·exact absurd e.symm hw
     ·rw [hk, decide_eq_true e, Bool.or_true]
     ·rw [decide_eq_true (hk.trans e.symm), Bool.true_or]
    rw [ztk hw];simp only [beq_self, cond_true, cond_false, kC, eqI, k8, decide_true, decide_false, Int.cast_ofNat_Int, Int.natCast_zero, Int.natCast_one];rw [yN (by first | (have := hml 0; omega) | (have := hml 1; omega) | (have := hml 2; omega) | (have := hml 3; omega) | (have := hml 4; omega) | (have := hml 5; omega))]
    simp only [kC];rw [zjq _ _ _ _ _ _ _ _ _ _ _ _ _ _ _ (hml _)];simp only [beq_self, cond_true, cond_false, kC]
    first | rw [hok 0 rfl] | rw [hok 1 rfl] | rw [hok 2 rfl] | rw [hok 3 rfl] | rw [hok 4 rfl] | rw [hok 5 rfl]
    rfl
theorem zrc (script loose : List OpT) (c : List Int × Int × Int) (hs : script.length <= 60) (hf : ∀ o, o ∈ script -> z5q o) (x : xo) (h : Fine 6 0 x (kD 6 xj)) :
  ∃ r, zn zy (loose, script, ((script.length : Nat) : Int), 0, c, x.1, x.2.1, x.2.2.1, x.2.2.2.1, x.2.2.2.2.1, kD 6 xj, x.2.2.2.2.2) = some r /\
   ∃ (x : xo) (last : List (List Int)), Fine 6 script.length x last /\ r = .inl (loose, c, x.1, x.2.1, x.2.2.1, x.2.2.2.1, x.2.2.2.2.1, last, x.2.2.2.2.2) := by
 refine zkz zy script.length (zh3 script loose c) _ ?_ (fun i s hi h => .inl (zrd hs hf hi h)) ⟨x, _, h, rfl⟩
 rintro s ⟨x, last, h, rfl⟩;refine ⟨_, ?_, x, last, h, rfl⟩;show yw loose script (script.length : Nat) (script.length : Nat) c x.1 x.2.1 x.2.2.1 x.2.2.2.1 x.2.2.2.2.1 last x.2.2.2.2.2 = _;unfold yw;rw [qW (by omega), beq_self]; rfl
theorem zof (script : List OpT) (c : List Int × Int × Int) (m : Nat) (hm : m <= 100) (hs : script.length <= 60) (hf : ∀ o, o ∈ script -> z5q o) (x : xo) (want : List (List Int)) (h : Fine 6 m x want) (h1 : x.1 = []) (h2 : x.2.2.2.2.2 = want) :
  ∃ r, zn zl (-1, script, ((script.length : Nat) : Int), 0, c, x.1, x.2.1, x.2.2.1, x.2.2.2.1, x.2.2.2.2.1, want, x.2.2.2.2.2, [], [], [], [], [], []) = some r /\
   ∃ (x : xo) (last : List (List Int)) (torn : Int), Fine 6 (m + script.length) x last /\ x.2.2.2.2.2 = want /\ x.1.length = script.length /\ (∀ (j : Nat) w, x.1[j]? = some w -> (j : Int) = c.2.1 -> torn = w.1) /\
    r = .inl (torn, c, x.1, x.2.1, x.2.2.1, x.2.2.2.1, x.2.2.2.2.1, want, x.2.2.2.2.2, zE x.1 0, zE x.1 1, zE x.1 2, zE x.1 3, zE x.1 4, zE x.1 5) := by
 refine zkz zl script.length (za6 script c want m) _ ?_ (fun i s hi h => .inl (zog hm hs hf hi h)) ⟨x, want, -1, h, h2, by rw [h1]; rfl, fun j w hj _ => (by rw [h1] at hj; cases hj), by rw [h1]; rfl⟩
 rintro s ⟨x, last, torn, h, h2, h3, h4, rfl⟩;refine ⟨_, ?_, x, last, torn, h, h2, h3, h4, rfl⟩;show zN torn script (script.length : Nat) (script.length : Nat) c x.1 x.2.1 x.2.2.1 x.2.2.2.1 x.2.2.2.2.1 want x.2.2.2.2.2 (zE x.1 0) (zE x.1 1) (zE x.1 2) (zE x.1 3) (zE x.1 4) (zE x.1 5) = _;unfold zN;rw [qW (by omega)]
 simp only [beq_self, cond_true, cond_false]
theorem zre (sure loose : List OpT) (c : List Int × Int × Int) (hl : sure.length <= 9223372036854775807) (hs : ∀ o, o ∈ sure -> o.2.2.2.1.length <= 9223372036854775807 /\ o.2.2.2.2.2.1.length <= 9223372036854775807)
  (hl2 : loose.length <= 9223372036854775807) (hs2 : ∀ o, o ∈ loose -> o.2.2.2.1.length <= 9223372036854775807 /\ o.2.2.2.2.2.1.length <= 9223372036854775807) (hc : c.1.length <= 9223372036854775807) : z2t sure loose c = some true := by
 unfold z2t;rw [zsd];simp only [kC, kS, cond_false];rcases zmx 1 sure hl hs with ⟨h1, _, _, h4, h5⟩ | h1
 ·rw [h1];simp only [kC, kS, cond_false];rcases zmx 1 loose hl2 hs2 with ⟨g1, _, _, g4, g5⟩ | g1
  ·rw [g1];simp only [kC, kS, cond_false];rw [yN hc]
   by_cases hk : 70 < c.1.length
   ·rw [jh (by omega)]; rfl
   ·rw [qW (by omega), zqf 6 (by omega)]
    simp only [kC, cond_false, beq_self, cond_true];have h0 := Fine.new 6;rw [show zcr (6 : Int).toNat = zcr 6 from rfl]
    generalize zcr 6 = x0 at h0;rw [zrb sure loose c x0];simp only [kC];rw [yN (by omega)]
    obtain ⟨r, e1, x1, last, f1, rfl⟩ := zrc sure loose c h4 h5 x0 h0;refine (congrArg (fun z => kq z _) e1).trans ?_
    simp only [kC, Sum.elim_inl, beq_self, cond_true];rw [zpq x1 (f1.ok (by omega) (by omega))]
    obtain ⟨x2, b1, f2, b3, _, b5⟩ := f1.barrier;rw [b1];simp only [kC, z02 rfl, cond_false];rw [yN (by omega)]
    simp only [beq_self, cond_true, List.length_nil, Nat.beq_refl];obtain ⟨r, e2, x3, last3, torn, f3, d1, d2, d3, rfl⟩ := zof loose c (sure.length + 1) (by omega) g4 g5 x2 last f2 b3 b5
    refine (congrArg (fun z => kq z _) e2).trans ?_
    simp only [kC, Sum.elim_inl, beq_self, cond_true];have ok3 := f3.ok (by omega) (by omega)
    rw [zvf c x3 ok3 (by omega)]
    simp only [kC, beq_self, cond_true];rw [zw1];simp only [kC];have okc := ztz (c := c) ok3;rw [xn _ _ rfl, xn _ _ rfl, xn _ _ rfl, xn _ _ rfl, xn _ _ rfl, xn _ _ rfl];have hcd : z5l c x3 = ([], -1, x3.2.2.1, x3.2.2.2.1, true, z70 c x3.1 0 x3.2.2.2.2.2) := by unfold z5l; rw [f3.off]; rfl
    have okz : OkDev (onD (z5l c x3)) := ⟨okc.d, okc.l, okc.left, okc.c, okc.n, okc.s⟩;have z1 : (onD (z5l c x3)).1 = [] := by rw [hcd]; rfl
    have z6 : (onD (z5l c x3)).2.2.2.2.2 = z70 c x3.1 0 x3.2.2.2.2.2 := by rw [hcd]; rfl
    have hloop := zrn torn (onD (z5l c x3)) okz z1 rfl (by rw [z6, zeo]; exact f3.s) last f1.len x3.1 (by omega) (fun i b hi hb => by
     rw [z6] at hb;rcases zmu c i x3.1 0 _ f3.d (by rw [f3.s]; exact hi) b hb with h | h | ⟨j, w, j1, j2, j3⟩
     ·rw [d1] at h; exact .inl h
     ·exact .inr (.inl h)
     ·exact .inr (.inr ((d3 j w j1 (by rw [<- j3]; simp)).trans j2)))
    refine (congrArg (fun z => kq z _) hloop).trans ?_
    rfl
  ·rw [g1]; rfl
 ·rw [h1]; rfl
end Go.Proofs.Ytamfpgmpofncoaa
