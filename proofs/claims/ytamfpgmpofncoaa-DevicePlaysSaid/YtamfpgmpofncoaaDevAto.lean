import Derived.Test.YtamfpgmpofncoaaTm21to24
import Derived.Test.YtamfpgmpofncoaaProg
/- Typed functions of Go functions, printed by tm2.py; each is what the typed machine comes to. -/
set_option maxRecDepth 100000
set_option linter.unusedVariables false
noncomputable section
namespace Go.Proofs.Ytamfpgmpofncoaa
open Go.Tm Go.Ab

def c0 : U := (.arr 256 (.int .u8))
def c1 : U := (.sl (.st (.cons (.int .i64) (.one (.arr 256 (.int .u8))))))
def c2 : U := (.st (.cons (.sl (.int .i64)) (.cons (.int .i64) (.one (.int .i64)))))
def c3 : U := (.st (.cons (.sl (.arr 256 (.int .u8))) (.cons (.sl (.st (.cons (.int .i64) (.one (.arr 256 (.int .u8)))))) (.cons (.int .i64) (.cons (.st (.cons (.sl (.int .i64)) (.cons (.int .i64) (.one (.int .i64))))) (.cons (.int .i64) (.one .bool)))))))
def c4 : U := (.st (.cons (.int .i64) (.one (.arr 256 (.int .u8)))))
def c5 : U := (.sl (.st (.cons (.int .i64) (.cons (.int .i64) (.cons (.int .u8) (.cons .str (.cons .bool (.one (.st (.cons (.sl (.int .i64)) (.cons (.int .i64) (.one (.int .i64)))))))))))))
def c6 : U := (.st (.cons (.int .i64) (.one .str)))
def c7 : U := (.st (.cons (.sl .str) (.cons (.sl (.st (.cons (.int .i64) (.one .str)))) (.cons (.int .i64) (.cons (.st (.cons (.sl (.int .i64)) (.cons (.int .i64) (.one (.int .i64))))) (.cons (.int .i64) (.one .bool)))))))
def c8 : U := (.st (.cons (.int .i64) (.cons (.int .i64) (.cons (.int .u8) (.cons .str (.cons .bool (.one (.st (.cons (.sl (.int .i64)) (.cons (.int .i64) (.one (.int .i64))))))))))))
/- device.New -/
def device_New_V : Env := ⟨[], [], []⟩
theorem device_New_env : EnvsOK Try.prog device_New_V := ⟨env_nil _, fenv_nil _, denv_nil _⟩
def device_New_XK0 : Shp := ⟨1, 0, [(0, .tu [.c .nilp, .d (.int .i64)])], []⟩
def device_New_XK1 : Shp := ⟨1, 0, [(0, .tu [.pt 0 (.one (.st (.cons .leaf (.cons .leaf (.cons .leaf (.cons (.st (.cons .leaf (.cons .leaf (.one .leaf)))) (.cons .leaf (.one .leaf)))))))) [], .d (.int .i64)])], [.var 61 (.ag [.wn 1 c0, .d c1, .d (.int .i64), .d c2, .d (.int .i64), .d .bool]), .row 64 c0]⟩
def device_New_X : XS := .or .ret device_New_XK0.xe (.one .ret device_New_XK1.xe)
theorem device_New_X_ok : device_New_X.OK := XS.or_ok (shp_ok device_New_XK0) (XS.one_ok (shp_ok device_New_XK1))
def device_New (sectors : Int) : Option ((Int) ⊕ (Int × (List (Int × (List Int))) × Int × ((List Int) × Int × Int) × Int × Bool × (List (List Int)))) :=
  bif ltI sectors 1 then
  some (.inl 1)
  else
  bif ltI 4096 sectors then
  some (.inl 1)
  else
  makeG sectors 256 (
  bif Nat.beq sectors.toNat (List.length (List.replicate sectors.toNat (List.replicate 256 (0 : Int)))) then
  some (.inr (0, [], (-1), ([], 0, 0), 0, false, List.replicate sectors.toNat (List.replicate 256 (0 : Int))))
  else none)
def device_New_S : Sig := ⟨11, [.d (.int .i64)], [], 0, device_New_X⟩
def device_New_fn (x : Int) : Option ((Int) ⊕ (Int × (List (Int × (List Int))) × Int × ((List Int) × Int × Int) × Int × Bool × (List (List Int)))) := device_New x
theorem device_New_ok : FnOK Try.prog device_New_S device_New_fn :=
  fn_ok device_New_env (h := .no) Try.func11 (hok_of [] (by kernel_rfl) trivial) (by kernel_rfl) device_New_X_ok (fun x => by kernel_rfl)

/- wardshiplaw03.full -/
def law03_full_V : Env := ⟨[], [], []⟩
theorem law03_full_env : EnvsOK Try.prog law03_full_V := ⟨env_nil _, fenv_nil _, denv_nil _⟩
def law03_full_l1_1_0_1_0XK0 : Shp := ⟨22, 0, [(1, .d .str), (5, .wn 0 (.int .u8))], [.row 5 (.int .u8)]⟩
def law03_full_l1_1_0_1_0X : XS := .one (.exit 0) law03_full_l1_1_0_1_0XK0.xe
theorem law03_full_l1_1_0_1_0X_ok : law03_full_l1_1_0_1_0X.OK := XS.one_ok (shp_ok law03_full_l1_1_0_1_0XK0)
def law03_full_l1_1_0_1_0S : Shp := ⟨22, 0, [(0, .d (.int .u8)), (1, .d .str), (5, .wn 0 (.int .u8)), (9, .d (.int .i64)), (10, .d (.int .i64))], [.row 5 (.int .u8)]⟩
def law03_full_l1_1_0_1_0r (c : Int) (t1 : List Int) (t9 : Int) (t10 : Int) (b : List Int) : Option ((Int × (List Int) × Int × Int × (List Int)) ⊕ (((List Int) × (List Int)))) :=
  bif ltI t10 t9 then
  bif inI t10 (List.length b) then
  (b[t10.toNat]?).bind fun _x =>
  bif Nat.beq (List.length b) (List.length (b.set t10.toNat c)) then
  some (.inl (c, t1, t9, W64 (t10 + 1), b.set t10.toNat c))
  else none
  else none
  else
  bif Nat.beq (List.length b) (List.length b) then
  some (.inr (t1, b))
  else none
def law03_full_l1_1_0_1_0g (s : Int × (List Int) × Int × Int × (List Int)) : Option ((Int × (List Int) × Int × Int × (List Int)) ⊕ (((List Int) × (List Int)))) := law03_full_l1_1_0_1_0r s.1 s.2.1 s.2.2.1 s.2.2.2.1 s.2.2.2.2
theorem law03_full_l1_1_0_1_0_ok : SoundD Try.prog (.loop (subC (bodyC Try.f12) [1, 1, 0, 1, 0, 0])) (loopD law03_full_l1_1_0_1_0S.xe law03_full_l1_1_0_1_0X (loopC law03_full_l1_1_0_1_0g)) :=
  loop_sound (S := law03_full_l1_1_0_1_0S.xe) (X := law03_full_l1_1_0_1_0X) law03_full_env (h := .no) (hok_of [] (by kernel_rfl) trivial) (shp_ok law03_full_l1_1_0_1_0S) law03_full_l1_1_0_1_0X_ok law03_full_l1_1_0_1_0g (fun s => by kernel_rfl)
def law03_full_XK0 : Shp := ⟨1, 0, [(0, .d (.sl (.int .u8)))], []⟩
def law03_full_X : XS := .one .ret law03_full_XK0.xe
theorem law03_full_X_ok : law03_full_X.OK := XS.one_ok (shp_ok law03_full_XK0)
def law03_full (c : Int) (t1 : List Int) : Option (((List Int))) :=
  bif Nat.beq 256 (List.length (List.replicate 256 (0 : Int))) then
  (loopC law03_full_l1_1_0_1_0g (c, t1, 256, 0, List.replicate 256 (0 : Int))).bind fun o =>
  bif Nat.ble (List.length o.2) (List.length o.2) then
  winK (cpyL o.2 0 (List.length o.2) o.1) 0 (List.length o.2) fun w =>
  some w
  else none
  else none
def law03_full_S : Sig := ⟨12, [.d (.int .u8), .d .str], [], 0, law03_full_X⟩
def law03_full_fn (x : Int × (List Int)) : Option (((List Int))) := law03_full x.1 x.2
theorem law03_full_ok : FnOK Try.prog law03_full_S law03_full_fn :=
  fn_ok law03_full_env (h := (.two .no (.two .no (.two (.two .no (.over (loopD law03_full_l1_1_0_1_0S.xe law03_full_l1_1_0_1_0X (loopC law03_full_l1_1_0_1_0g)))) .no)))) Try.func12 (hok_of [.den (.loop (subC (bodyC Try.f12) [1, 1, 0, 1, 0, 0])) (loopD law03_full_l1_1_0_1_0S.xe law03_full_l1_1_0_1_0X (loopC law03_full_l1_1_0_1_0g))] (by kernel_rfl) ⟨law03_full_l1_1_0_1_0_ok, trivial⟩) (by kernel_rfl) law03_full_X_ok (fun x => by kernel_rfl)

/- (*device.Device).Off -/
def device_Device_Off_V : Env := ⟨[], [], []⟩
theorem device_Device_Off_env : EnvsOK Try.prog device_Device_Off_V := ⟨env_nil _, fenv_nil _, denv_nil _⟩
def device_Device_Off_XK0 : Shp := ⟨1, 0, [(0, .d .bool)], []⟩
def device_Device_Off_X : XS := .one .ret device_Device_Off_XK0.xe
theorem device_Device_Off_X_ok : device_Device_Off_X.OK := XS.one_ok (shp_ok device_Device_Off_XK0)
def device_Device_Off (d : (List (List Int)) × (List (Int × (List Int))) × Int × ((List Int) × Int × Int) × Int × Bool) : Option ((Bool)) :=
  some d.2.2.2.2.2
def device_Device_Off_S : Sig := ⟨20, [.rf (.d c3)], [], 0, device_Device_Off_X⟩
def device_Device_Off_fn (x : ((List (List Int)) × (List (Int × (List Int))) × Int × ((List Int) × Int × Int) × Int × Bool)) : Option ((Bool)) := device_Device_Off x
theorem device_Device_Off_ok : FnOK Try.prog device_Device_Off_S device_Device_Off_fn :=
  fn_ok device_Device_Off_env (h := .no) Try.func20 (hok_of [] (by kernel_rfl) trivial) (by kernel_rfl) device_Device_Off_X_ok (fun x => by kernel_rfl)

/- (*device.Device).may -/
def device_Device_may_V : Env := ⟨[(entQ device_Device_Off_S device_Device_Off_fn)], [], []⟩
theorem device_Device_may_env : EnvsOK Try.prog device_Device_may_V := ⟨env_cons (entQ_ok device_Device_Off_ok) (env_nil _), fenv_nil _, denv_nil _⟩
def device_Device_may_XK0 : Shp := ⟨1, 0, [(0, .d (.int .i64))], []⟩
def device_Device_may_X : XS := .one .ret device_Device_may_XK0.xe
theorem device_Device_may_X_ok : device_Device_may_X.OK := XS.one_ok (shp_ok device_Device_may_XK0)
def device_Device_may (d : (List (List Int)) × (List (Int × (List Int))) × Int × ((List Int) × Int × Int) × Int × Bool) (i : Int) : Option ((Int)) :=
  (device_Device_Off d).bind fun r =>
  bif r then
  some 6
  else
  bif ltI i 0 then
  some 2
  else
  shortK (List.length d.1) (
  bif leI (List.length d.1 : Nat) i then
  some 2
  else
  some 0)
def device_Device_may_S : Sig := ⟨26, [.rf (.d c3), .d (.int .i64)], [], 0, device_Device_may_X⟩
def device_Device_may_fn (x : ((List (List Int)) × (List (Int × (List Int))) × Int × ((List Int) × Int × Int) × Int × Bool) × Int) : Option ((Int)) := device_Device_may x.1 x.2
theorem device_Device_may_ok : FnOK Try.prog device_Device_may_S device_Device_may_fn :=
  fn_ok device_Device_may_env (h := .no) Try.func26 (hok_of [] (by kernel_rfl) trivial) (by kernel_rfl) device_Device_may_X_ok (fun x => by kernel_rfl)

/- slices.Clip[[]device.loose,device.loose] -/
def slices_Clip_V : Env := ⟨[], [], []⟩
theorem slices_Clip_env : EnvsOK Try.prog slices_Clip_V := ⟨env_nil _, fenv_nil _, denv_nil _⟩
def slices_Clip_XK0 : Shp := ⟨1, 0, [(0, .fs c4)], []⟩
def slices_Clip_X : XS := .one .ret slices_Clip_XK0.xe
theorem slices_Clip_X_ok : slices_Clip_X.OK := XS.one_ok (shp_ok slices_Clip_XK0)
def slices_Clip (t0 : List (Int × (List Int))) : Option (((List (Int × (List Int))))) :=
  shortK (List.length t0) (
  shortK (List.length t0) (
  bif subOk 0 (List.length t0 : Nat) (List.length t0) && eqI (List.length t0 : Nat) (List.length t0 : Nat) then
  some (subL t0 0 (List.length t0 : Nat))
  else none))
def slices_Clip_S : Sig := ⟨27, [.d c1], [], 0, slices_Clip_X⟩
def slices_Clip_fn (x : (List (Int × (List Int)))) : Option (((List (Int × (List Int))))) := slices_Clip x
theorem slices_Clip_ok : FnOK Try.prog slices_Clip_S slices_Clip_fn :=
  fn_ok slices_Clip_env (h := .no) Try.func27 (hok_of [] (by kernel_rfl) trivial) (by kernel_rfl) slices_Clip_X_ok (fun x => by kernel_rfl)

/- slices.Index[[]int,int] -/
def slices_Index_V : Env := ⟨[], [], []⟩
theorem slices_Index_env : EnvsOK Try.prog slices_Index_V := ⟨env_nil _, fenv_nil _, denv_nil _⟩
def slices_Index_l1_0_1_0XK0 : Shp := ⟨19, 0, [], []⟩
def slices_Index_l1_0_1_0XK1 : Shp := ⟨19, 0, [(4, .d (.int .i64))], []⟩
def slices_Index_l1_0_1_0X : XS := .or (.exit 0) slices_Index_l1_0_1_0XK0.xe (.one .ret slices_Index_l1_0_1_0XK1.xe)
theorem slices_Index_l1_0_1_0X_ok : slices_Index_l1_0_1_0X.OK := XS.or_ok (shp_ok slices_Index_l1_0_1_0XK0) (XS.one_ok (shp_ok slices_Index_l1_0_1_0XK1))
def slices_Index_l1_0_1_0S : Shp := ⟨19, 0, [(0, .d (.sl (.int .i64))), (1, .d (.int .i64)), (7, .d (.int .i64)), (8, .d (.int .i64))], []⟩
def slices_Index_l1_0_1_0r (t0 : List Int) (v : Int) (t7 : Int) (t8 : Int) : Option (((List Int) × Int × Int × Int) ⊕ ((Unit) ⊕ (Int))) :=
  bif ltI t8 t7 then
  (idxI t0 t8).bind fun x =>
  bif eqI v x then
  some (.inr (.inr t8))
  else
  some (.inl (t0, v, t7, W64 (t8 + 1)))
  else
  some (.inr (.inl ()))
def slices_Index_l1_0_1_0g (s : (List Int) × Int × Int × Int) : Option (((List Int) × Int × Int × Int) ⊕ ((Unit) ⊕ (Int))) := slices_Index_l1_0_1_0r s.1 s.2.1 s.2.2.1 s.2.2.2
theorem slices_Index_l1_0_1_0_ok : SoundD Try.prog (.loop (subC (bodyC Try.f36) [1, 0, 1, 0, 0])) (loopD slices_Index_l1_0_1_0S.xe slices_Index_l1_0_1_0X (loopC slices_Index_l1_0_1_0g)) :=
  loop_sound (S := slices_Index_l1_0_1_0S.xe) (X := slices_Index_l1_0_1_0X) slices_Index_env (h := .no) (hok_of [] (by kernel_rfl) trivial) (shp_ok slices_Index_l1_0_1_0S) slices_Index_l1_0_1_0X_ok slices_Index_l1_0_1_0g (fun s => by kernel_rfl)
def slices_Index_XK0 : Shp := ⟨1, 0, [(0, .d (.int .i64))], []⟩
def slices_Index_X : XS := .one .ret slices_Index_XK0.xe
theorem slices_Index_X_ok : slices_Index_X.OK := XS.one_ok (shp_ok slices_Index_XK0)
def slices_Index (t0 : List Int) (v : Int) : Option ((Int)) :=
  shortK (List.length t0) (
  (loopC slices_Index_l1_0_1_0g (t0, v, (List.length t0 : Nat), 0)).bind fun o =>
  Sum.elim (fun y =>
  some (-1)) (fun y2 =>
  some y2) o)
def slices_Index_S : Sig := ⟨36, [.d (.sl (.int .i64)), .d (.int .i64)], [], 0, slices_Index_X⟩
def slices_Index_fn (x : (List Int) × Int) : Option ((Int)) := slices_Index x.1 x.2
theorem slices_Index_ok : FnOK Try.prog slices_Index_S slices_Index_fn :=
  fn_ok slices_Index_env (h := (.two .no (.two (.two .no (.over (loopD slices_Index_l1_0_1_0S.xe slices_Index_l1_0_1_0X (loopC slices_Index_l1_0_1_0g)))) .no))) Try.func36 (hok_of [.den (.loop (subC (bodyC Try.f36) [1, 0, 1, 0, 0])) (loopD slices_Index_l1_0_1_0S.xe slices_Index_l1_0_1_0X (loopC slices_Index_l1_0_1_0g))] (by kernel_rfl) ⟨slices_Index_l1_0_1_0_ok, trivial⟩) (by kernel_rfl) slices_Index_X_ok (fun x => by kernel_rfl)

/- slices.Contains[[]int,int] -/
def slices_Contains_V : Env := ⟨[(entQ slices_Index_S slices_Index_fn)], [], []⟩
theorem slices_Contains_env : EnvsOK Try.prog slices_Contains_V := ⟨env_cons (entQ_ok slices_Index_ok) (env_nil _), fenv_nil _, denv_nil _⟩
def slices_Contains_XK0 : Shp := ⟨1, 0, [(0, .d .bool)], []⟩
def slices_Contains_X : XS := .one .ret slices_Contains_XK0.xe
theorem slices_Contains_X_ok : slices_Contains_X.OK := XS.one_ok (shp_ok slices_Contains_XK0)
def slices_Contains (t0 : List Int) (v : Int) : Option ((Bool)) :=
  (slices_Index t0 v).bind fun r =>
  some (leI 0 r)
def slices_Contains_S : Sig := ⟨29, [.d (.sl (.int .i64)), .d (.int .i64)], [], 0, slices_Contains_X⟩
def slices_Contains_fn (x : (List Int) × Int) : Option ((Bool)) := slices_Contains x.1 x.2
theorem slices_Contains_ok : FnOK Try.prog slices_Contains_S slices_Contains_fn :=
  fn_ok slices_Contains_env (h := .no) Try.func29 (hok_of [] (by kernel_rfl) trivial) (by kernel_rfl) slices_Contains_X_ok (fun x => by kernel_rfl)

/- (*device.Device).Cut -/
def device_Device_Cut_V : Env := ⟨[(entQ device_Device_Off_S device_Device_Off_fn), (entQ slices_Contains_S slices_Contains_fn)], [], []⟩
theorem device_Device_Cut_env : EnvsOK Try.prog device_Device_Cut_V := ⟨env_cons (entQ_ok device_Device_Off_ok) (env_cons (entQ_ok slices_Contains_ok) (env_nil _)), fenv_nil _, denv_nil _⟩
def device_Device_Cut_j1_1_0_1_0_0_1_1_0_0_1_1K0 : Shp := ⟨53, 1, [(0, .pt 0 (.one (.st (.cons .leaf (.cons .leaf (.cons .leaf (.cons (.st (.cons .leaf (.cons .leaf (.one .leaf)))) (.cons .leaf (.one .leaf)))))))) []), (3, .pt 1 (.one (.st (.cons .leaf (.cons .leaf (.one .leaf))))) []), (5, .pt 2 (.one (.st (.cons .leaf (.one (.arr 256 .leaf))))) []), (6, .d (.int .i64)), (12, .d c1), (13, .d (.int .i64)), (14, .d (.int .i64))], [.var 61 (.ag [.wn 3 c0, .d c1, .d (.int .i64), .d c2, .d (.int .i64), .d .bool]), .var 25 (.d c2), .var 66 (.d c4), .row 64 c0]⟩
def device_Device_Cut_j1_1_0_1_0_0_1_1_0_0_1_1 : XS := .one .normal device_Device_Cut_j1_1_0_1_0_0_1_1_0_0_1_1K0.xe
theorem device_Device_Cut_j1_1_0_1_0_0_1_1_0_0_1_1_ok : device_Device_Cut_j1_1_0_1_0_0_1_1_0_0_1_1.OK := XS.one_ok (shp_ok device_Device_Cut_j1_1_0_1_0_0_1_1_0_0_1_1K0)
def device_Device_Cut_j1_1_0_1_0_0_1_1_0_0_1_1E : Shp := ⟨53, 1, [(0, .pt 0 (.one (.st (.cons .leaf (.cons .leaf (.cons .leaf (.cons (.st (.cons .leaf (.cons .leaf (.one .leaf)))) (.cons .leaf (.one .leaf)))))))) []), (3, .pt 1 (.one (.st (.cons .leaf (.cons .leaf (.one .leaf))))) []), (4, .d (.int .i64)), (5, .pt 2 (.one (.st (.cons .leaf (.one (.arr 256 .leaf))))) []), (6, .d (.int .i64)), (12, .d c1), (13, .d (.int .i64)), (14, .d (.int .i64))], [.var 61 (.ag [.wn 3 c0, .d c1, .d (.int .i64), .d c2, .d (.int .i64), .d .bool]), .var 25 (.d c2), .var 66 (.d c4), .row 64 c0]⟩
def device_Device_Cut_l1_1_0_1_0XK0 : Shp := ⟨53, 1, [(0, .pt 0 (.one (.st (.cons .leaf (.cons .leaf (.cons .leaf (.cons (.st (.cons .leaf (.cons .leaf (.one .leaf)))) (.cons .leaf (.one .leaf)))))))) [])], [.var 61 (.ag [.wn 1 c0, .d c1, .d (.int .i64), .d c2, .d (.int .i64), .d .bool]), .row 64 c0]⟩
def device_Device_Cut_l1_1_0_1_0X : XS := .one (.exit 0) device_Device_Cut_l1_1_0_1_0XK0.xe
theorem device_Device_Cut_l1_1_0_1_0X_ok : device_Device_Cut_l1_1_0_1_0X.OK := XS.one_ok (shp_ok device_Device_Cut_l1_1_0_1_0XK0)
def device_Device_Cut_l1_1_0_1_0S : Shp := ⟨53, 1, [(0, .pt 0 (.one (.st (.cons .leaf (.cons .leaf (.cons .leaf (.cons (.st (.cons .leaf (.cons .leaf (.one .leaf)))) (.cons .leaf (.one .leaf)))))))) []), (3, .pt 1 (.one (.st (.cons .leaf (.cons .leaf (.one .leaf))))) []), (12, .d c1), (13, .d (.int .i64)), (14, .d (.int .i64))], [.var 61 (.ag [.wn 2 c0, .d c1, .d (.int .i64), .d c2, .d (.int .i64), .d .bool]), .var 25 (.d c2), .row 64 c0]⟩
def device_Device_Cut_l1_1_0_1_0r (t12 : List (Int × (List Int))) (t13 : Int) (t14 : Int) (d : List (Int × (List Int))) (d2 : Int) (d3 : (List Int) × Int × Int) (d4 : Int) (d5 : Bool) (c : (List Int) × Int × Int) (d6 : List (List Int)) : Option (((List (Int × (List Int))) × Int × Int × (List (Int × (List Int))) × Int × ((List Int) × Int × Int) × Int × Bool × ((List Int) × Int × Int) × (List (List Int))) ⊕ (((List (Int × (List Int))) × Int × ((List Int) × Int × Int) × Int × Bool × (List (List Int))))) :=
  bif ltI t14 t13 then
  (idxI t12 t14).bind fun x =>
  (show Option ((Int × (List (Int × (List Int))) × Int × Int × (List (Int × (List Int))) × Int × ((List Int) × Int × Int) × Int × Bool × ((List Int) × Int × Int) × (Int × (List Int)) × (List (List Int)))) from
  (slices_Contains c.1 t14).bind fun r =>
  bif r then
  bif Nat.beq (List.length d6) (List.length d6) then
  some (256, t12, t13, t14, d, d2, d3, d4, d5, c, x, d6)
  else none
  else
  bif eqI c.2.1 t14 then
  bif Nat.beq (List.length d6) (List.length d6) then
  some (maxI 0 (minI c.2.2 256), t12, t13, t14, d, d2, d3, d4, d5, c, x, d6)
  else none
  else
  bif Nat.beq (List.length d6) (List.length d6) then
  some (0, t12, t13, t14, d, d2, d3, d4, d5, c, x, d6)
  else none).bind fun j =>
  bif inI j.2.2.2.2.2.2.2.2.2.2.1.1 (List.length j.2.2.2.2.2.2.2.2.2.2.2) then
  (j.2.2.2.2.2.2.2.2.2.2.2[j.2.2.2.2.2.2.2.2.2.2.1.1.toNat]?).bind fun x2 =>
  bif subOk 0 j.1 256 then
  winK j.2.2.2.2.2.2.2.2.2.2.1.2 0 256 fun w =>
  (j.2.2.2.2.2.2.2.2.2.2.2[j.2.2.2.2.2.2.2.2.2.2.1.1.toNat]?).bind fun x3 =>
  bif Nat.ble j.1.toNat (List.length x3) then
  (j.2.2.2.2.2.2.2.2.2.2.2[j.2.2.2.2.2.2.2.2.2.2.1.1.toNat]?).bind fun _x =>
  bif Nat.beq (List.length j.2.2.2.2.2.2.2.2.2.2.2) (List.length (j.2.2.2.2.2.2.2.2.2.2.2.set j.2.2.2.2.2.2.2.2.2.2.1.1.toNat (cpyL x3 0 j.1.toNat w))) then
  some (.inl (j.2.1, j.2.2.1, W64 (j.2.2.2.1 + 1), j.2.2.2.2.1, j.2.2.2.2.2.1, j.2.2.2.2.2.2.1, j.2.2.2.2.2.2.2.1, j.2.2.2.2.2.2.2.2.1, j.2.2.2.2.2.2.2.2.2.1, j.2.2.2.2.2.2.2.2.2.2.2.set j.2.2.2.2.2.2.2.2.2.2.1.1.toNat (cpyL x3 0 j.1.toNat w)))
  else none
  else none
  else none
  else none
  else
  bif Nat.beq (List.length d6) (List.length d6) then
  some (.inr (d, d2, d3, d4, d5, d6))
  else none
def device_Device_Cut_l1_1_0_1_0g (s : (List (Int × (List Int))) × Int × Int × (List (Int × (List Int))) × Int × ((List Int) × Int × Int) × Int × Bool × ((List Int) × Int × Int) × (List (List Int))) : Option (((List (Int × (List Int))) × Int × Int × (List (Int × (List Int))) × Int × ((List Int) × Int × Int) × Int × Bool × ((List Int) × Int × Int) × (List (List Int))) ⊕ (((List (Int × (List Int))) × Int × ((List Int) × Int × Int) × Int × Bool × (List (List Int))))) := device_Device_Cut_l1_1_0_1_0r s.1 s.2.1 s.2.2.1 s.2.2.2.1 s.2.2.2.2.1 s.2.2.2.2.2.1 s.2.2.2.2.2.2.1 s.2.2.2.2.2.2.2.1 s.2.2.2.2.2.2.2.2.1 s.2.2.2.2.2.2.2.2.2
theorem device_Device_Cut_l1_1_0_1_0_ok : SoundD Try.prog (.loop (subC (bodyC Try.f15) [1, 1, 0, 1, 0, 0])) (loopD device_Device_Cut_l1_1_0_1_0S.xe device_Device_Cut_l1_1_0_1_0X (loopC device_Device_Cut_l1_1_0_1_0g)) :=
  loop_sound (S := device_Device_Cut_l1_1_0_1_0S.xe) (X := device_Device_Cut_l1_1_0_1_0X) device_Device_Cut_env (h := (.two .no (.two .no (.two (.two .no (.two .no (.join (fun _ => device_Device_Cut_j1_1_0_1_0_0_1_1_0_0_1_1) .no (.reg [] [11, 0])))) .no)))) (hok_of [.xs (fun _ => device_Device_Cut_j1_1_0_1_0_0_1_1_0_0_1_1)] (by kernel_rfl) ⟨(oneX_ok device_Device_Cut_j1_1_0_1_0_0_1_1_0_0_1_1_ok), trivial⟩) (shp_ok device_Device_Cut_l1_1_0_1_0S) device_Device_Cut_l1_1_0_1_0X_ok device_Device_Cut_l1_1_0_1_0g (fun s => by kernel_rfl)
def device_Device_Cut_XK0 : Shp := ⟨1, 1, [(0, .tu [])], [.var 61 (.ag [.wn 1 c0, .d c1, .d (.int .i64), .d c2, .d (.int .i64), .d .bool]), .row 64 c0]⟩
def device_Device_Cut_X : XS := .one .ret device_Device_Cut_XK0.xe
theorem device_Device_Cut_X_ok : device_Device_Cut_X.OK := XS.one_ok (shp_ok device_Device_Cut_XK0)
def device_Device_Cut (c : (List Int) × Int × Int) (d : List (Int × (List Int))) (d2 : Int) (d3 : (List Int) × Int × Int) (d4 : Int) (d5 : Bool) (d6 : List (List Int)) : Option (((List (Int × (List Int))) × Int × ((List Int) × Int × Int) × Int × Bool × (List (List Int)))) :=
  winK d6 0 (List.length d6) fun w =>
  (device_Device_Off (w, d, d2, d3, d4, d5)).bind fun r =>
  bif r then
  bif Nat.beq (List.length d6) (List.length d6) then
  some (d, d2, d3, d4, d5, d6)
  else none
  else
  shortK (List.length d) (
  bif Nat.beq (List.length d6) (List.length d6) then
  (loopC device_Device_Cut_l1_1_0_1_0g (d, (List.length d : Nat), 0, d, d2, d3, d4, d5, c, d6)).bind fun o =>
  bif Nat.beq (List.length o.2.2.2.2.2) (List.length o.2.2.2.2.2) then
  some ([], (-1), o.2.2.1, o.2.2.2.1, true, o.2.2.2.2.2)
  else none
  else none)
def device_Device_Cut_S : Sig := ⟨15, [.pt 0 (.one (.st (.cons .leaf (.cons .leaf (.cons .leaf (.cons (.st (.cons .leaf (.cons .leaf (.one .leaf)))) (.cons .leaf (.one .leaf)))))))) [], .d c2], [.var 61 (.ag [.wn 1 c0, .d c1, .d (.int .i64), .d c2, .d (.int .i64), .d .bool]), .row 64 c0], 1, device_Device_Cut_X⟩
def device_Device_Cut_fn (x : ((List Int) × Int × Int) × (List (Int × (List Int))) × Int × ((List Int) × Int × Int) × Int × Bool × (List (List Int))) : Option (((List (Int × (List Int))) × Int × ((List Int) × Int × Int) × Int × Bool × (List (List Int)))) := device_Device_Cut x.1 x.2.1 x.2.2.1 x.2.2.2.1 x.2.2.2.2.1 x.2.2.2.2.2.1 x.2.2.2.2.2.2
theorem device_Device_Cut_ok : FnOK Try.prog device_Device_Cut_S device_Device_Cut_fn :=
  fn_ok device_Device_Cut_env (h := (.two .no (.two .no (.two (.two .no (.over (loopD device_Device_Cut_l1_1_0_1_0S.xe device_Device_Cut_l1_1_0_1_0X (loopC device_Device_Cut_l1_1_0_1_0g)))) .no)))) Try.func15 (hok_of [.den (.loop (subC (bodyC Try.f15) [1, 1, 0, 1, 0, 0])) (loopD device_Device_Cut_l1_1_0_1_0S.xe device_Device_Cut_l1_1_0_1_0X (loopC device_Device_Cut_l1_1_0_1_0g))] (by kernel_rfl) ⟨device_Device_Cut_l1_1_0_1_0_ok, trivial⟩) (by kernel_rfl) device_Device_Cut_X_ok (fun x => by kernel_rfl)

/- (*device.Device).change -/
def device_Device_change_V : Env := ⟨[], [(entP device_Device_Cut_S device_Device_Cut_fn)], []⟩
theorem device_Device_change_env : EnvsOK Try.prog device_Device_change_V := ⟨env_nil _, fenv_cons (entP_ok device_Device_Cut_ok) (fenv_nil _), denv_nil _⟩
def device_Device_change_XK0 : Shp := ⟨1, 1, [(0, .d (.int .i64))], [.var 61 (.ag [.wn 1 c0, .d c1, .d (.int .i64), .d c2, .d (.int .i64), .d .bool]), .row 64 c0]⟩
def device_Device_change_X : XS := .one .ret device_Device_change_XK0.xe
theorem device_Device_change_X_ok : device_Device_change_X.OK := XS.one_ok (shp_ok device_Device_change_XK0)
def device_Device_change (d : List (Int × (List Int))) (d2 : Int) (d3 : (List Int) × Int × Int) (d4 : Int) (d5 : Bool) (d6 : List (List Int)) : Option ((Int × (List (Int × (List Int))) × Int × ((List Int) × Int × Int) × Int × Bool × (List (List Int)))) :=
  bif ltI d2 0 then
  bif Nat.beq (List.length d6) (List.length d6) then
  some (0, d, d2, d3, W64 (d4 + 1), d5, d6)
  else none
  else
  bif ltI (W64 (d2 - 1)) 0 then
  bif Nat.beq (List.length d6) (List.length d6) then
  (device_Device_Cut d3 d (W64 (d2 - 1)) d3 (W64 (d4 + 1)) d5 d6).bind fun r =>
  bif Nat.beq (List.length r.2.2.2.2.2) (List.length r.2.2.2.2.2) then
  some (6, r.1, r.2.1, r.2.2.1, r.2.2.2.1, r.2.2.2.2.1, r.2.2.2.2.2)
  else none
  else none
  else
  bif Nat.beq (List.length d6) (List.length d6) then
  some (0, d, W64 (d2 - 1), d3, W64 (d4 + 1), d5, d6)
  else none
def device_Device_change_S : Sig := ⟨28, [.pt 0 (.one (.st (.cons .leaf (.cons .leaf (.cons .leaf (.cons (.st (.cons .leaf (.cons .leaf (.one .leaf)))) (.cons .leaf (.one .leaf)))))))) []], [.var 61 (.ag [.wn 1 c0, .d c1, .d (.int .i64), .d c2, .d (.int .i64), .d .bool]), .row 64 c0], 1, device_Device_change_X⟩
def device_Device_change_fn (x : (List (Int × (List Int))) × Int × ((List Int) × Int × Int) × Int × Bool × (List (List Int))) : Option ((Int × (List (Int × (List Int))) × Int × ((List Int) × Int × Int) × Int × Bool × (List (List Int)))) := device_Device_change x.1 x.2.1 x.2.2.1 x.2.2.2.1 x.2.2.2.2.1 x.2.2.2.2.2
theorem device_Device_change_ok : FnOK Try.prog device_Device_change_S device_Device_change_fn :=
  fn_ok device_Device_change_env (h := .no) Try.func28 (hok_of [] (by kernel_rfl) trivial) (by kernel_rfl) device_Device_change_X_ok (fun x => by kernel_rfl)

/- (*device.Device).Write -/
def device_Device_Write_V : Env := ⟨[(entQ device_Device_may_S device_Device_may_fn), (entQ slices_Clip_S slices_Clip_fn)], [(entP device_Device_change_S device_Device_change_fn)], []⟩
theorem device_Device_Write_env : EnvsOK Try.prog device_Device_Write_V := ⟨env_cons (entQ_ok device_Device_may_ok) (env_cons (entQ_ok slices_Clip_ok) (env_nil _)), fenv_cons (entP_ok device_Device_change_ok) (fenv_nil _), denv_nil _⟩
def device_Device_Write_XK0 : Shp := ⟨1, 1, [(0, .d (.int .i64))], [.var 61 (.ag [.wn 1 c0, .d c1, .d (.int .i64), .d c2, .d (.int .i64), .d .bool]), .row 64 c0]⟩
def device_Device_Write_X : XS := .one .ret device_Device_Write_XK0.xe
theorem device_Device_Write_X_ok : device_Device_Write_X.OK := XS.one_ok (shp_ok device_Device_Write_XK0)
def device_Device_Write (i : Int) (b : List Int) (d : List (Int × (List Int))) (d2 : Int) (d3 : (List Int) × Int × Int) (d4 : Int) (d5 : Bool) (d6 : List (List Int)) : Option ((Int × (List (Int × (List Int))) × Int × ((List Int) × Int × Int) × Int × Bool × (List (List Int)))) :=
  winK d6 0 (List.length d6) fun w =>
  (device_Device_may (w, d, d2, d3, d4, d5) i).bind fun r =>
  bif neI r 0 then
  bif Nat.beq (List.length d6) (List.length d6) then
  some (r, d, d2, d3, d4, d5, d6)
  else none
  else
  shortK (List.length b) (
  bif neI (List.length b : Nat) 256 then
  bif Nat.beq (List.length d6) (List.length d6) then
  some (1, d, d2, d3, d4, d5, d6)
  else none
  else
  bif Nat.ble 256 (List.length (List.replicate 256 (0 : Int))) then
  (slices_Clip d).bind fun r2 =>
  appG (List.length r2) (List.length (([(i, cpyL (List.replicate 256 (0 : Int)) 0 256 b)] : List (Int × (List Int))))) 264 fun _ =>
  bif Nat.beq (List.length d6) (List.length d6) then
  (device_Device_change (r2 ++ (([(i, cpyL (List.replicate 256 (0 : Int)) 0 256 b)] : List (Int × (List Int))))) d2 d3 d4 d5 d6).bind fun r3 =>
  bif Nat.beq (List.length r3.2.2.2.2.2.2) (List.length r3.2.2.2.2.2.2) then
  some (r3.1, r3.2.1, r3.2.2.1, r3.2.2.2.1, r3.2.2.2.2.1, r3.2.2.2.2.2.1, r3.2.2.2.2.2.2)
  else none
  else none
  else none)
def device_Device_Write_S : Sig := ⟨13, [.pt 0 (.one (.st (.cons .leaf (.cons .leaf (.cons .leaf (.cons (.st (.cons .leaf (.cons .leaf (.one .leaf)))) (.cons .leaf (.one .leaf)))))))) [], .d (.int .i64), .d (.sl (.int .u8))], [.var 61 (.ag [.wn 1 c0, .d c1, .d (.int .i64), .d c2, .d (.int .i64), .d .bool]), .row 64 c0], 1, device_Device_Write_X⟩
def device_Device_Write_fn (x : Int × (List Int) × (List (Int × (List Int))) × Int × ((List Int) × Int × Int) × Int × Bool × (List (List Int))) : Option ((Int × (List (Int × (List Int))) × Int × ((List Int) × Int × Int) × Int × Bool × (List (List Int)))) := device_Device_Write x.1 x.2.1 x.2.2.1 x.2.2.2.1 x.2.2.2.2.1 x.2.2.2.2.2.1 x.2.2.2.2.2.2.1 x.2.2.2.2.2.2.2
theorem device_Device_Write_ok : FnOK Try.prog device_Device_Write_S device_Device_Write_fn :=
  fn_ok device_Device_Write_env (h := .no) Try.func13 (hok_of [] (by kernel_rfl) trivial) (by kernel_rfl) device_Device_Write_X_ok (fun x => by kernel_rfl)

/- (*device.Device).Barrier -/
def device_Device_Barrier_V : Env := ⟨[(entQ device_Device_Off_S device_Device_Off_fn)], [(entP device_Device_change_S device_Device_change_fn)], []⟩
theorem device_Device_Barrier_env : EnvsOK Try.prog device_Device_Barrier_V := ⟨env_cons (entQ_ok device_Device_Off_ok) (env_nil _), fenv_cons (entP_ok device_Device_change_ok) (fenv_nil _), denv_nil _⟩
def device_Device_Barrier_l1_1_1_0_1_0XK0 : Shp := ⟨35, 1, [(0, .pt 0 (.one (.st (.cons .leaf (.cons .leaf (.cons .leaf (.cons (.st (.cons .leaf (.cons .leaf (.one .leaf)))) (.cons .leaf (.one .leaf)))))))) [])], [.var 61 (.ag [.wn 1 c0, .d c1, .d (.int .i64), .d c2, .d (.int .i64), .d .bool]), .row 64 c0]⟩
def device_Device_Barrier_l1_1_1_0_1_0X : XS := .one (.exit 0) device_Device_Barrier_l1_1_1_0_1_0XK0.xe
theorem device_Device_Barrier_l1_1_1_0_1_0X_ok : device_Device_Barrier_l1_1_1_0_1_0X.OK := XS.one_ok (shp_ok device_Device_Barrier_l1_1_1_0_1_0XK0)
def device_Device_Barrier_l1_1_1_0_1_0S : Shp := ⟨35, 1, [(0, .pt 0 (.one (.st (.cons .leaf (.cons .leaf (.cons .leaf (.cons (.st (.cons .leaf (.cons .leaf (.one .leaf)))) (.cons .leaf (.one .leaf)))))))) []), (16, .d c1), (17, .d (.int .i64)), (18, .d (.int .i64))], [.var 61 (.ag [.wn 1 c0, .d c1, .d (.int .i64), .d c2, .d (.int .i64), .d .bool]), .row 64 c0]⟩
def device_Device_Barrier_l1_1_1_0_1_0r (t16 : List (Int × (List Int))) (t17 : Int) (t18 : Int) (d : List (Int × (List Int))) (d2 : Int) (d3 : (List Int) × Int × Int) (d4 : Int) (d5 : Bool) (d6 : List (List Int)) : Option (((List (Int × (List Int))) × Int × Int × (List (Int × (List Int))) × Int × ((List Int) × Int × Int) × Int × Bool × (List (List Int))) ⊕ (((List (Int × (List Int))) × Int × ((List Int) × Int × Int) × Int × Bool × (List (List Int))))) :=
  bif ltI t18 t17 then
  (idxI t16 t18).bind fun x =>
  bif inI x.1 (List.length d6) then
  (d6[x.1.toNat]?).bind fun _x =>
  bif Nat.beq (List.length d6) (List.length (d6.set x.1.toNat x.2)) then
  some (.inl (t16, t17, W64 (t18 + 1), d, d2, d3, d4, d5, d6.set x.1.toNat x.2))
  else none
  else none
  else
  bif Nat.beq (List.length d6) (List.length d6) then
  some (.inr (d, d2, d3, d4, d5, d6))
  else none
def device_Device_Barrier_l1_1_1_0_1_0g (s : (List (Int × (List Int))) × Int × Int × (List (Int × (List Int))) × Int × ((List Int) × Int × Int) × Int × Bool × (List (List Int))) : Option (((List (Int × (List Int))) × Int × Int × (List (Int × (List Int))) × Int × ((List Int) × Int × Int) × Int × Bool × (List (List Int))) ⊕ (((List (Int × (List Int))) × Int × ((List Int) × Int × Int) × Int × Bool × (List (List Int))))) := device_Device_Barrier_l1_1_1_0_1_0r s.1 s.2.1 s.2.2.1 s.2.2.2.1 s.2.2.2.2.1 s.2.2.2.2.2.1 s.2.2.2.2.2.2.1 s.2.2.2.2.2.2.2.1 s.2.2.2.2.2.2.2.2
theorem device_Device_Barrier_l1_1_1_0_1_0_ok : SoundD Try.prog (.loop (subC (bodyC Try.f14) [1, 1, 1, 0, 1, 0, 0])) (loopD device_Device_Barrier_l1_1_1_0_1_0S.xe device_Device_Barrier_l1_1_1_0_1_0X (loopC device_Device_Barrier_l1_1_1_0_1_0g)) :=
  loop_sound (S := device_Device_Barrier_l1_1_1_0_1_0S.xe) (X := device_Device_Barrier_l1_1_1_0_1_0X) device_Device_Barrier_env (h := .no) (hok_of [] (by kernel_rfl) trivial) (shp_ok device_Device_Barrier_l1_1_1_0_1_0S) device_Device_Barrier_l1_1_1_0_1_0X_ok device_Device_Barrier_l1_1_1_0_1_0g (fun s => by kernel_rfl)
def device_Device_Barrier_XK0 : Shp := ⟨1, 1, [(0, .d (.int .i64))], [.var 61 (.ag [.wn 1 c0, .d c1, .d (.int .i64), .d c2, .d (.int .i64), .d .bool]), .row 64 c0]⟩
def device_Device_Barrier_X : XS := .one .ret device_Device_Barrier_XK0.xe
theorem device_Device_Barrier_X_ok : device_Device_Barrier_X.OK := XS.one_ok (shp_ok device_Device_Barrier_XK0)
def device_Device_Barrier (d : List (Int × (List Int))) (d2 : Int) (d3 : (List Int) × Int × Int) (d4 : Int) (d5 : Bool) (d6 : List (List Int)) : Option ((Int × (List (Int × (List Int))) × Int × ((List Int) × Int × Int) × Int × Bool × (List (List Int)))) :=
  winK d6 0 (List.length d6) fun w =>
  (device_Device_Off (w, d, d2, d3, d4, d5)).bind fun r =>
  bif r then
  bif Nat.beq (List.length d6) (List.length d6) then
  some (6, d, d2, d3, d4, d5, d6)
  else none
  else
  bif Nat.beq (List.length d6) (List.length d6) then
  (device_Device_change d d2 d3 d4 d5 d6).bind fun r2 =>
  bif neI r2.1 0 then
  bif Nat.beq (List.length r2.2.2.2.2.2.2) (List.length r2.2.2.2.2.2.2) then
  some (r2.1, r2.2.1, r2.2.2.1, r2.2.2.2.1, r2.2.2.2.2.1, r2.2.2.2.2.2.1, r2.2.2.2.2.2.2)
  else none
  else
  shortK (List.length r2.2.1) (
  bif Nat.beq (List.length r2.2.2.2.2.2.2) (List.length r2.2.2.2.2.2.2) then
  (loopC device_Device_Barrier_l1_1_1_0_1_0g (r2.2.1, (List.length r2.2.1 : Nat), 0, r2.2.1, r2.2.2.1, r2.2.2.2.1, r2.2.2.2.2.1, r2.2.2.2.2.2.1, r2.2.2.2.2.2.2)).bind fun o =>
  bif Nat.beq (List.length o.2.2.2.2.2) (List.length o.2.2.2.2.2) then
  some (0, [], o.2.1, o.2.2.1, o.2.2.2.1, o.2.2.2.2.1, o.2.2.2.2.2)
  else none
  else none)
  else none
def device_Device_Barrier_S : Sig := ⟨14, [.pt 0 (.one (.st (.cons .leaf (.cons .leaf (.cons .leaf (.cons (.st (.cons .leaf (.cons .leaf (.one .leaf)))) (.cons .leaf (.one .leaf)))))))) []], [.var 61 (.ag [.wn 1 c0, .d c1, .d (.int .i64), .d c2, .d (.int .i64), .d .bool]), .row 64 c0], 1, device_Device_Barrier_X⟩
def device_Device_Barrier_fn (x : (List (Int × (List Int))) × Int × ((List Int) × Int × Int) × Int × Bool × (List (List Int))) : Option ((Int × (List (Int × (List Int))) × Int × ((List Int) × Int × Int) × Int × Bool × (List (List Int)))) := device_Device_Barrier x.1 x.2.1 x.2.2.1 x.2.2.2.1 x.2.2.2.2.1 x.2.2.2.2.2
theorem device_Device_Barrier_ok : FnOK Try.prog device_Device_Barrier_S device_Device_Barrier_fn :=
  fn_ok device_Device_Barrier_env (h := (.two .no (.two .no (.two .no (.two (.two .no (.over (loopD device_Device_Barrier_l1_1_1_0_1_0S.xe device_Device_Barrier_l1_1_1_0_1_0X (loopC device_Device_Barrier_l1_1_1_0_1_0g)))) .no))))) Try.func14 (hok_of [.den (.loop (subC (bodyC Try.f14) [1, 1, 1, 0, 1, 0, 0])) (loopD device_Device_Barrier_l1_1_1_0_1_0S.xe device_Device_Barrier_l1_1_1_0_1_0X (loopC device_Device_Barrier_l1_1_1_0_1_0g))] (by kernel_rfl) ⟨device_Device_Barrier_l1_1_1_0_1_0_ok, trivial⟩) (by kernel_rfl) device_Device_Barrier_X_ok (fun x => by kernel_rfl)

/- (*device.Device).On -/
def device_Device_On_V : Env := ⟨[], [], []⟩
theorem device_Device_On_env : EnvsOK Try.prog device_Device_On_V := ⟨env_nil _, fenv_nil _, denv_nil _⟩
def device_Device_On_XK0 : Shp := ⟨1, 1, [(0, .d .bool)], [.var 61 (.ag [.wn 1 c0, .d c1, .d (.int .i64), .d c2, .d (.int .i64), .d .bool]), .row 64 c0]⟩
def device_Device_On_X : XS := .one .ret device_Device_On_XK0.xe
theorem device_Device_On_X_ok : device_Device_On_X.OK := XS.one_ok (shp_ok device_Device_On_XK0)
def device_Device_On (d : List (Int × (List Int))) (d2 : Int) (d3 : (List Int) × Int × Int) (d4 : Int) (d5 : Bool) (d6 : List (List Int)) : Option ((Bool × (List (Int × (List Int))) × Int × ((List Int) × Int × Int) × Int × Bool × (List (List Int)))) :=
  bif !d5 then
  bif Nat.beq (List.length d6) (List.length d6) then
  some (false, d, d2, d3, d4, d5, d6)
  else none
  else
  bif Nat.beq (List.length d6) (List.length d6) then
  some (true, d, d2, d3, d4, false, d6)
  else none
def device_Device_On_S : Sig := ⟨16, [.pt 0 (.one (.st (.cons .leaf (.cons .leaf (.cons .leaf (.cons (.st (.cons .leaf (.cons .leaf (.one .leaf)))) (.cons .leaf (.one .leaf)))))))) []], [.var 61 (.ag [.wn 1 c0, .d c1, .d (.int .i64), .d c2, .d (.int .i64), .d .bool]), .row 64 c0], 1, device_Device_On_X⟩
def device_Device_On_fn (x : (List (Int × (List Int))) × Int × ((List Int) × Int × Int) × Int × Bool × (List (List Int))) : Option ((Bool × (List (Int × (List Int))) × Int × ((List Int) × Int × Int) × Int × Bool × (List (List Int)))) := device_Device_On x.1 x.2.1 x.2.2.1 x.2.2.2.1 x.2.2.2.2.1 x.2.2.2.2.2
theorem device_Device_On_ok : FnOK Try.prog device_Device_On_S device_Device_On_fn :=
  fn_ok device_Device_On_env (h := .no) Try.func16 (hok_of [] (by kernel_rfl) trivial) (by kernel_rfl) device_Device_On_X_ok (fun x => by kernel_rfl)

/- (*device.Device).Read -/
def device_Device_Read_2_V : Env := ⟨[(entQ device_Device_may_S device_Device_may_fn)], [], []⟩
theorem device_Device_Read_2_env : EnvsOK Try.prog device_Device_Read_2_V := ⟨env_cons (entQ_ok device_Device_may_ok) (env_nil _), fenv_nil _, denv_nil _⟩
def device_Device_Read_2_l1_1_1_0_1_0XK0 : Shp := ⟨40, 1, [(7, .pt 1 (.one (.arr 256 .leaf)) [])], [.var 61 (.ag [.wn 2 c0, .d c1, .d (.int .i64), .d c2, .d (.int .i64), .d .bool]), .var 64 (.d c0), .row 64 c0]⟩
def device_Device_Read_2_l1_1_1_0_1_0X : XS := .one (.exit 0) device_Device_Read_2_l1_1_1_0_1_0XK0.xe
theorem device_Device_Read_2_l1_1_1_0_1_0X_ok : device_Device_Read_2_l1_1_1_0_1_0X.OK := XS.one_ok (shp_ok device_Device_Read_2_l1_1_1_0_1_0XK0)
def device_Device_Read_2_l1_1_1_0_1_0S : Shp := ⟨40, 1, [(1, .d (.int .i64)), (7, .pt 1 (.one (.arr 256 .leaf)) []), (26, .d c1), (27, .d (.int .i64)), (28, .d (.int .i64))], [.var 61 (.ag [.wn 2 c0, .d c1, .d (.int .i64), .d c2, .d (.int .i64), .d .bool]), .var 64 (.d c0), .row 64 c0]⟩
def device_Device_Read_2_l1_1_1_0_1_0r (i : Int) (t26 : List (Int × (List Int))) (t27 : Int) (t28 : Int) (h : List (Int × (List Int))) (h2 : Int) (h3 : (List Int) × Int × Int) (h4 : Int) (h5 : Bool) (t7 : List Int) (h6 : List (List Int)) : Option ((Int × (List (Int × (List Int))) × Int × Int × (List (Int × (List Int))) × Int × ((List Int) × Int × Int) × Int × Bool × (List Int) × (List (List Int))) ⊕ (((List (Int × (List Int))) × Int × ((List Int) × Int × Int) × Int × Bool × (List Int) × (List (List Int))))) :=
  bif ltI t28 t27 then
  (idxI t26 t28).bind fun x =>
  bif eqI x.1 i then
  bif Nat.beq (List.length h6) (List.length h6) then
  some (.inl (i, t26, t27, W64 (t28 + 1), h, h2, h3, h4, h5, x.2, h6))
  else none
  else
  bif Nat.beq (List.length h6) (List.length h6) then
  some (.inl (i, t26, t27, W64 (t28 + 1), h, h2, h3, h4, h5, t7, h6))
  else none
  else
  bif Nat.beq (List.length h6) (List.length h6) then
  some (.inr (h, h2, h3, h4, h5, t7, h6))
  else none
def device_Device_Read_2_l1_1_1_0_1_0g (s : Int × (List (Int × (List Int))) × Int × Int × (List (Int × (List Int))) × Int × ((List Int) × Int × Int) × Int × Bool × (List Int) × (List (List Int))) : Option ((Int × (List (Int × (List Int))) × Int × Int × (List (Int × (List Int))) × Int × ((List Int) × Int × Int) × Int × Bool × (List Int) × (List (List Int))) ⊕ (((List (Int × (List Int))) × Int × ((List Int) × Int × Int) × Int × Bool × (List Int) × (List (List Int))))) := device_Device_Read_2_l1_1_1_0_1_0r s.1 s.2.1 s.2.2.1 s.2.2.2.1 s.2.2.2.2.1 s.2.2.2.2.2.1 s.2.2.2.2.2.2.1 s.2.2.2.2.2.2.2.1 s.2.2.2.2.2.2.2.2.1 s.2.2.2.2.2.2.2.2.2.1 s.2.2.2.2.2.2.2.2.2.2
theorem device_Device_Read_2_l1_1_1_0_1_0_ok : SoundD Try.prog (.loop (subC (bodyC Try.f17) [1, 1, 1, 0, 1, 0, 0])) (loopD device_Device_Read_2_l1_1_1_0_1_0S.xe device_Device_Read_2_l1_1_1_0_1_0X (loopC device_Device_Read_2_l1_1_1_0_1_0g)) :=
  loop_sound (S := device_Device_Read_2_l1_1_1_0_1_0S.xe) (X := device_Device_Read_2_l1_1_1_0_1_0X) device_Device_Read_2_env (h := .no) (hok_of [] (by kernel_rfl) trivial) (shp_ok device_Device_Read_2_l1_1_1_0_1_0S) device_Device_Read_2_l1_1_1_0_1_0X_ok device_Device_Read_2_l1_1_1_0_1_0g (fun s => by kernel_rfl)
def device_Device_Read_2_XK0 : Shp := ⟨1, 1, [(0, .tu [.wn 1 (.int .u8), .d (.int .i64)])], [.var 61 (.ag [.wn 2 c0, .d c1, .d (.int .i64), .d c2, .d (.int .i64), .d .bool]), .row 64 (.int .u8), .row 64 c0]⟩
def device_Device_Read_2_X : XS := .one .ret device_Device_Read_2_XK0.xe
theorem device_Device_Read_2_X_ok : device_Device_Read_2_X.OK := XS.one_ok (shp_ok device_Device_Read_2_XK0)
def device_Device_Read_2 (i : Int) (d : List (Int × (List Int))) (d2 : Int) (d3 : (List Int) × Int × Int) (d4 : Int) (d5 : Bool) (d6 : List (List Int)) : Option ((Int × (List (Int × (List Int))) × Int × ((List Int) × Int × Int) × Int × Bool × (List Int) × (List (List Int)))) :=
  winK d6 0 (List.length d6) fun w =>
  (device_Device_may (w, d, d2, d3, d4, d5) i).bind fun r =>
  bif neI r 0 then
  bif Nat.beq 0 (List.length ([] : List Int)) then
  bif Nat.beq (List.length d6) (List.length d6) then
  some (r, d, d2, d3, d4, d5, ([] : List Int), d6)
  else none
  else none
  else
  bif inI i (List.length d6) then
  (d6[i.toNat]?).bind fun x =>
  shortK (List.length d) (
  bif Nat.beq (List.length d6) (List.length d6) then
  (loopC device_Device_Read_2_l1_1_1_0_1_0g (i, d, (List.length d : Nat), 0, d, d2, d3, d4, d5, x, d6)).bind fun o =>
  bif Nat.beq 256 (List.length o.2.2.2.2.2.1) then
  bif Nat.beq (List.length o.2.2.2.2.2.2) (List.length o.2.2.2.2.2.2) then
  some (0, o.1, o.2.1, o.2.2.1, o.2.2.2.1, o.2.2.2.2.1, o.2.2.2.2.2.1, o.2.2.2.2.2.2)
  else none
  else none
  else none)
  else none
def device_Device_Read_2_S : Sig := ⟨17, [.pt 0 (.one (.st (.cons .leaf (.cons .leaf (.cons .leaf (.cons (.st (.cons .leaf (.cons .leaf (.one .leaf)))) (.cons .leaf (.one .leaf)))))))) [], .d (.int .i64)], [.var 61 (.ag [.wn 1 c0, .d c1, .d (.int .i64), .d c2, .d (.int .i64), .d .bool]), .row 64 c0], 1, device_Device_Read_2_X⟩
def device_Device_Read_2_fn (x : Int × (List (Int × (List Int))) × Int × ((List Int) × Int × Int) × Int × Bool × (List (List Int))) : Option ((Int × (List (Int × (List Int))) × Int × ((List Int) × Int × Int) × Int × Bool × (List Int) × (List (List Int)))) := device_Device_Read_2 x.1 x.2.1 x.2.2.1 x.2.2.2.1 x.2.2.2.2.1 x.2.2.2.2.2.1 x.2.2.2.2.2.2
theorem device_Device_Read_2_ok : FnOK Try.prog device_Device_Read_2_S device_Device_Read_2_fn :=
  fn_ok device_Device_Read_2_env (h := (.two .no (.two .no (.two .no (.two (.two .no (.over (loopD device_Device_Read_2_l1_1_1_0_1_0S.xe device_Device_Read_2_l1_1_1_0_1_0X (loopC device_Device_Read_2_l1_1_1_0_1_0g)))) .no))))) Try.func17 (hok_of [.den (.loop (subC (bodyC Try.f17) [1, 1, 1, 0, 1, 0, 0])) (loopD device_Device_Read_2_l1_1_1_0_1_0S.xe device_Device_Read_2_l1_1_1_0_1_0X (loopC device_Device_Read_2_l1_1_1_0_1_0g))] (by kernel_rfl) ⟨device_Device_Read_2_l1_1_1_0_1_0_ok, trivial⟩) (by kernel_rfl) device_Device_Read_2_X_ok (fun x => by kernel_rfl)

/- wardshiplaw03.lives -/
def law03_lives_V : Env := ⟨[(entQ law03_full_S law03_full_fn), (entQ device_Device_Off_S device_Device_Off_fn)], [(entP device_New_S device_New_fn), (entP device_Device_Write_S device_Device_Write_fn), (entP device_Device_Barrier_S device_Device_Barrier_fn), (entP device_Device_Cut_S device_Device_Cut_fn), (entP device_Device_On_S device_Device_On_fn), (entP device_Device_Read_2_S device_Device_Read_2_fn)], []⟩
theorem law03_lives_env : EnvsOK Try.prog law03_lives_V := ⟨env_cons (entQ_ok law03_full_ok) (env_cons (entQ_ok device_Device_Off_ok) (env_nil _)), fenv_cons (entP_ok device_New_ok) (fenv_cons (entP_ok device_Device_Write_ok) (fenv_cons (entP_ok device_Device_Barrier_ok) (fenv_cons (entP_ok device_Device_Cut_ok) (fenv_cons (entP_ok device_Device_On_ok) (fenv_cons (entP_ok device_Device_Read_2_ok) (fenv_nil _)))))), denv_nil _⟩
def law03_lives_j1K0 : Shp := ⟨56, 0, [(1, .c .nilp), (2, .d (.int .i64))], []⟩
def law03_lives_j1K1 : Shp := ⟨56, 0, [(1, .pt 0 (.one (.st (.cons .leaf (.cons .leaf (.cons .leaf (.cons (.st (.cons .leaf (.cons .leaf (.one .leaf)))) (.cons .leaf (.one .leaf)))))))) []), (2, .d (.int .i64))], [.var 61 (.ag [.wn 1 c0, .d c1, .d (.int .i64), .d c2, .d (.int .i64), .d .bool]), .row 64 c0]⟩
def law03_lives_j1 : XS := .or .normal law03_lives_j1K0.xe (.one .normal law03_lives_j1K1.xe)
theorem law03_lives_j1_ok : law03_lives_j1.OK := XS.or_ok (shp_ok law03_lives_j1K0) (XS.one_ok (shp_ok law03_lives_j1K1))
def law03_lives_j1E : Shp := ⟨56, 0, [], []⟩
def law03_lives_XK0 : Shp := ⟨1, 0, [(0, .d .bool)], []⟩
def law03_lives_X : XS := .one .ret law03_lives_XK0.xe
theorem law03_lives_X_ok : law03_lives_X.OK := XS.one_ok (shp_ok law03_lives_XK0)
def law03_lives  : Option ((Bool)) :=
  (show Option ((Int) ⊕ (Int × (List (Int × (List Int))) × Int × ((List Int) × Int × Int) × Int × Bool × (List (List Int)))) from
  (device_New 2).bind fun r =>
  Sum.elim (fun y =>
  some (.inl y)) (fun y2 =>
  bif Nat.beq (List.length y2.2.2.2.2.2.2) (List.length y2.2.2.2.2.2.2) then
  some (.inr (y2.1, y2.2.1, y2.2.2.1, y2.2.2.2.1, y2.2.2.2.2.1, y2.2.2.2.2.2.1, y2.2.2.2.2.2.2))
  else none) r).bind fun j =>
  Sum.elim (fun y3 =>
  some false) (fun y4 =>
  bif neI y4.1 0 then
  some false
  else
  (law03_full 120 ([] : List Int)).bind fun r2 =>
  bif Nat.beq (List.length y4.2.2.2.2.2.2) (List.length y4.2.2.2.2.2.2) then
  (device_Device_Write 1 r2 y4.2.1 y4.2.2.1 y4.2.2.2.1 y4.2.2.2.2.1 y4.2.2.2.2.2.1 y4.2.2.2.2.2.2).bind fun r3 =>
  bif neI r3.1 0 then
  some false
  else
  bif Nat.beq (List.length r3.2.2.2.2.2.2) (List.length r3.2.2.2.2.2.2) then
  (device_Device_Barrier r3.2.1 r3.2.2.1 r3.2.2.2.1 r3.2.2.2.2.1 r3.2.2.2.2.2.1 r3.2.2.2.2.2.2).bind fun r4 =>
  bif neI r4.1 0 then
  some false
  else
  (law03_full 121 ([] : List Int)).bind fun r5 =>
  bif Nat.beq (List.length r4.2.2.2.2.2.2) (List.length r4.2.2.2.2.2.2) then
  (device_Device_Write 1 r5 r4.2.1 r4.2.2.1 r4.2.2.2.1 r4.2.2.2.2.1 r4.2.2.2.2.2.1 r4.2.2.2.2.2.2).bind fun r6 =>
  bif neI r6.1 0 then
  some false
  else
  bif Nat.beq (List.length r6.2.2.2.2.2.2) (List.length r6.2.2.2.2.2.2) then
  (device_Device_Cut ([], 0, 2) r6.2.1 r6.2.2.1 r6.2.2.2.1 r6.2.2.2.2.1 r6.2.2.2.2.2.1 r6.2.2.2.2.2.2).bind fun r7 =>
  winK r7.2.2.2.2.2 0 (List.length r7.2.2.2.2.2) fun w =>
  (device_Device_Off (w, r7.1, r7.2.1, r7.2.2.1, r7.2.2.2.1, r7.2.2.2.2.1)).bind fun r8 =>
  bif !r8 then
  some false
  else
  bif Nat.beq (List.length r7.2.2.2.2.2) (List.length r7.2.2.2.2.2) then
  (device_Device_On r7.1 r7.2.1 r7.2.2.1 r7.2.2.2.1 r7.2.2.2.2.1 r7.2.2.2.2.2).bind fun r9 =>
  bif !r9.1 then
  some false
  else
  bif Nat.beq (List.length r9.2.2.2.2.2.2) (List.length r9.2.2.2.2.2.2) then
  (device_Device_Read_2 1 r9.2.1 r9.2.2.1 r9.2.2.2.1 r9.2.2.2.2.1 r9.2.2.2.2.2.1 r9.2.2.2.2.2.2).bind fun r10 =>
  bif eqI r10.1 0 then
  winK r10.2.2.2.2.2.2.1 0 (List.length r10.2.2.2.2.2.2.1) fun w2 =>
  (law03_full 120 ([121, 121] : List Int)).bind fun r11 =>
  some (eqS w2 r11)
  else
  some false
  else none
  else none
  else none
  else none
  else none
  else none) j
def law03_lives_S : Sig := ⟨9, [], [], 0, law03_lives_X⟩
def law03_lives_fn (x : Unit) : Option ((Bool)) := law03_lives 
theorem law03_lives_ok : FnOK Try.prog law03_lives_S law03_lives_fn :=
  fn_ok law03_lives_env (h := (.two .no (.join (fun _ => law03_lives_j1) .no .no))) Try.func9 (hok_of [.xs (fun _ => law03_lives_j1)] (by kernel_rfl) ⟨(oneX_ok law03_lives_j1_ok), trivial⟩) (by kernel_rfl) law03_lives_X_ok (fun x => by kernel_rfl)

/- (*device.Device).Off -/
def device_Device_Off_3_V : Env := ⟨[], [], []⟩
theorem device_Device_Off_3_env : EnvsOK Try.prog device_Device_Off_3_V := ⟨env_nil _, fenv_nil _, denv_nil _⟩
def device_Device_Off_3_XK0 : Shp := ⟨1, 0, [(0, .d .bool)], []⟩
def device_Device_Off_3_X : XS := .one .ret device_Device_Off_3_XK0.xe
theorem device_Device_Off_3_X_ok : device_Device_Off_3_X.OK := XS.one_ok (shp_ok device_Device_Off_3_XK0)
def device_Device_Off_3  : Option ((Bool)) :=
  some true
def device_Device_Off_3_S : Sig := ⟨20, [.c .nilp], [], 0, device_Device_Off_3_X⟩
def device_Device_Off_3_fn (x : Unit) : Option ((Bool)) := device_Device_Off_3 
theorem device_Device_Off_3_ok : FnOK Try.prog device_Device_Off_3_S device_Device_Off_3_fn :=
  fn_ok device_Device_Off_3_env (h := .no) Try.func20 (hok_of [] (by kernel_rfl) trivial) (by kernel_rfl) device_Device_Off_3_X_ok (fun x => by kernel_rfl)

/- (*device.Device).may -/
def device_Device_may_3_V : Env := ⟨[(entQ device_Device_Off_3_S device_Device_Off_3_fn)], [], []⟩
theorem device_Device_may_3_env : EnvsOK Try.prog device_Device_may_3_V := ⟨env_cons (entQ_ok device_Device_Off_3_ok) (env_nil _), fenv_nil _, denv_nil _⟩
def device_Device_may_3_XK0 : Shp := ⟨1, 0, [(0, .d (.int .i64))], []⟩
def device_Device_may_3_X : XS := .one .ret device_Device_may_3_XK0.xe
theorem device_Device_may_3_X_ok : device_Device_may_3_X.OK := XS.one_ok (shp_ok device_Device_may_3_XK0)
def device_Device_may_3 (i : Int) : Option ((Int)) :=
  (device_Device_Off_3).bind fun r =>
  bif r then
  some 6
  else
  bif ltI i 0 then
  some 2
  else
  none
def device_Device_may_3_S : Sig := ⟨26, [.c .nilp, .d (.int .i64)], [], 0, device_Device_may_3_X⟩
def device_Device_may_3_fn (x : Int) : Option ((Int)) := device_Device_may_3 x
theorem device_Device_may_3_ok : FnOK Try.prog device_Device_may_3_S device_Device_may_3_fn :=
  fn_ok device_Device_may_3_env (h := .no) Try.func26 (hok_of [] (by kernel_rfl) trivial) (by kernel_rfl) device_Device_may_3_X_ok (fun x => by kernel_rfl)

/- (*device.Device).Barrier -/
def device_Device_Barrier_2_V : Env := ⟨[(entQ device_Device_Off_3_S device_Device_Off_3_fn)], [], []⟩
theorem device_Device_Barrier_2_env : EnvsOK Try.prog device_Device_Barrier_2_V := ⟨env_cons (entQ_ok device_Device_Off_3_ok) (env_nil _), fenv_nil _, denv_nil _⟩
def device_Device_Barrier_2_XK0 : Shp := ⟨1, 0, [(0, .d (.int .i64))], []⟩
def device_Device_Barrier_2_X : XS := .one .ret device_Device_Barrier_2_XK0.xe
theorem device_Device_Barrier_2_X_ok : device_Device_Barrier_2_X.OK := XS.one_ok (shp_ok device_Device_Barrier_2_XK0)
def device_Device_Barrier_2  : Option ((Int)) :=
  (device_Device_Off_3).bind fun r =>
  bif r then
  some 6
  else
  none
def device_Device_Barrier_2_S : Sig := ⟨14, [.c .nilp], [], 0, device_Device_Barrier_2_X⟩
def device_Device_Barrier_2_fn (x : Unit) : Option ((Int)) := device_Device_Barrier_2 
theorem device_Device_Barrier_2_ok : FnOK Try.prog device_Device_Barrier_2_S device_Device_Barrier_2_fn :=
  fn_ok device_Device_Barrier_2_env (h := .no) Try.func14 (hok_of [] (by kernel_rfl) trivial) (by kernel_rfl) device_Device_Barrier_2_X_ok (fun x => by kernel_rfl)

/- (*device.Device).On -/
def device_Device_On_2_V : Env := ⟨[], [], []⟩
theorem device_Device_On_2_env : EnvsOK Try.prog device_Device_On_2_V := ⟨env_nil _, fenv_nil _, denv_nil _⟩
def device_Device_On_2_XK0 : Shp := ⟨1, 0, [(0, .d .bool)], []⟩
def device_Device_On_2_X : XS := .one .ret device_Device_On_2_XK0.xe
theorem device_Device_On_2_X_ok : device_Device_On_2_X.OK := XS.one_ok (shp_ok device_Device_On_2_XK0)
def device_Device_On_2  : Option ((Bool)) :=
  some false
def device_Device_On_2_S : Sig := ⟨16, [.c .nilp], [], 0, device_Device_On_2_X⟩
def device_Device_On_2_fn (x : Unit) : Option ((Bool)) := device_Device_On_2 
theorem device_Device_On_2_ok : FnOK Try.prog device_Device_On_2_S device_Device_On_2_fn :=
  fn_ok device_Device_On_2_env (h := .no) Try.func16 (hok_of [] (by kernel_rfl) trivial) (by kernel_rfl) device_Device_On_2_X_ok (fun x => by kernel_rfl)

/- (*device.Device).Loose -/
def device_Device_Loose_V : Env := ⟨[], [], []⟩
theorem device_Device_Loose_env : EnvsOK Try.prog device_Device_Loose_V := ⟨env_nil _, fenv_nil _, denv_nil _⟩
def device_Device_Loose_XK0 : Shp := ⟨1, 0, [(0, .d (.int .i64))], []⟩
def device_Device_Loose_X : XS := .one .ret device_Device_Loose_XK0.xe
theorem device_Device_Loose_X_ok : device_Device_Loose_X.OK := XS.one_ok (shp_ok device_Device_Loose_XK0)
def device_Device_Loose  : Option ((Int)) :=
  some 0
def device_Device_Loose_S : Sig := ⟨18, [.c .nilp], [], 0, device_Device_Loose_X⟩
def device_Device_Loose_fn (x : Unit) : Option ((Int)) := device_Device_Loose 
theorem device_Device_Loose_ok : FnOK Try.prog device_Device_Loose_S device_Device_Loose_fn :=
  fn_ok device_Device_Loose_env (h := .no) Try.func18 (hok_of [] (by kernel_rfl) trivial) (by kernel_rfl) device_Device_Loose_X_ok (fun x => by kernel_rfl)

/- (*device.Device).Changes -/
def device_Device_Changes_V : Env := ⟨[], [], []⟩
theorem device_Device_Changes_env : EnvsOK Try.prog device_Device_Changes_V := ⟨env_nil _, fenv_nil _, denv_nil _⟩
def device_Device_Changes_XK0 : Shp := ⟨1, 0, [(0, .d (.int .i64))], []⟩
def device_Device_Changes_X : XS := .one .ret device_Device_Changes_XK0.xe
theorem device_Device_Changes_X_ok : device_Device_Changes_X.OK := XS.one_ok (shp_ok device_Device_Changes_XK0)
def device_Device_Changes  : Option ((Int)) :=
  some 0
def device_Device_Changes_S : Sig := ⟨19, [.c .nilp], [], 0, device_Device_Changes_X⟩
def device_Device_Changes_fn (x : Unit) : Option ((Int)) := device_Device_Changes 
theorem device_Device_Changes_ok : FnOK Try.prog device_Device_Changes_S device_Device_Changes_fn :=
  fn_ok device_Device_Changes_env (h := .no) Try.func19 (hok_of [] (by kernel_rfl) trivial) (by kernel_rfl) device_Device_Changes_X_ok (fun x => by kernel_rfl)

/- (*device.Device).Size -/
def device_Device_Size_V : Env := ⟨[], [], []⟩
theorem device_Device_Size_env : EnvsOK Try.prog device_Device_Size_V := ⟨env_nil _, fenv_nil _, denv_nil _⟩
def device_Device_Size_XK0 : Shp := ⟨1, 0, [(0, .d (.int .i64))], []⟩
def device_Device_Size_X : XS := .one .ret device_Device_Size_XK0.xe
theorem device_Device_Size_X_ok : device_Device_Size_X.OK := XS.one_ok (shp_ok device_Device_Size_XK0)
def device_Device_Size  : Option ((Int)) :=
  some 0
def device_Device_Size_S : Sig := ⟨22, [.c .nilp], [], 0, device_Device_Size_X⟩
def device_Device_Size_fn (x : Unit) : Option ((Int)) := device_Device_Size 
theorem device_Device_Size_ok : FnOK Try.prog device_Device_Size_S device_Device_Size_fn :=
  fn_ok device_Device_Size_env (h := .no) Try.func22 (hok_of [] (by kernel_rfl) trivial) (by kernel_rfl) device_Device_Size_X_ok (fun x => by kernel_rfl)

/- (*device.Device).Plan -/
def device_Device_Plan_V : Env := ⟨[], [], []⟩
theorem device_Device_Plan_env : EnvsOK Try.prog device_Device_Plan_V := ⟨env_nil _, fenv_nil _, denv_nil _⟩
def device_Device_Plan_XK0 : Shp := ⟨1, 0, [(0, .tu [])], []⟩
def device_Device_Plan_X : XS := .one .ret device_Device_Plan_XK0.xe
theorem device_Device_Plan_X_ok : device_Device_Plan_X.OK := XS.one_ok (shp_ok device_Device_Plan_XK0)
def device_Device_Plan (after : Int) (c : (List Int) × Int × Int) : Option ((Unit)) :=
  some ()
def device_Device_Plan_S : Sig := ⟨21, [.c .nilp, .d (.int .i64), .d c2], [], 0, device_Device_Plan_X⟩
def device_Device_Plan_fn (x : Int × ((List Int) × Int × Int)) : Option ((Unit)) := device_Device_Plan x.1 x.2
theorem device_Device_Plan_ok : FnOK Try.prog device_Device_Plan_S device_Device_Plan_fn :=
  fn_ok device_Device_Plan_env (h := .no) Try.func21 (hok_of [] (by kernel_rfl) trivial) (by kernel_rfl) device_Device_Plan_X_ok (fun x => by kernel_rfl)

/- (*device.Device).Cut -/
def device_Device_Cut_2_V : Env := ⟨[(entQ device_Device_Off_3_S device_Device_Off_3_fn)], [], []⟩
theorem device_Device_Cut_2_env : EnvsOK Try.prog device_Device_Cut_2_V := ⟨env_cons (entQ_ok device_Device_Off_3_ok) (env_nil _), fenv_nil _, denv_nil _⟩
def device_Device_Cut_2_XK0 : Shp := ⟨1, 0, [(0, .tu [])], []⟩
def device_Device_Cut_2_X : XS := .one .ret device_Device_Cut_2_XK0.xe
theorem device_Device_Cut_2_X_ok : device_Device_Cut_2_X.OK := XS.one_ok (shp_ok device_Device_Cut_2_XK0)
def device_Device_Cut_2 (c : (List Int) × Int × Int) : Option ((Unit)) :=
  (device_Device_Off_3).bind fun r =>
  bif r then
  some ()
  else
  none
def device_Device_Cut_2_S : Sig := ⟨15, [.c .nilp, .d c2], [], 0, device_Device_Cut_2_X⟩
def device_Device_Cut_2_fn (x : ((List Int) × Int × Int)) : Option ((Unit)) := device_Device_Cut_2 x
theorem device_Device_Cut_2_ok : FnOK Try.prog device_Device_Cut_2_S device_Device_Cut_2_fn :=
  fn_ok device_Device_Cut_2_env (h := .no) Try.func15 (hok_of [] (by kernel_rfl) trivial) (by kernel_rfl) device_Device_Cut_2_X_ok (fun x => by kernel_rfl)

/- (*device.Device).Read -/
def device_Device_Read_4_V : Env := ⟨[(entQ device_Device_may_3_S device_Device_may_3_fn)], [], []⟩
theorem device_Device_Read_4_env : EnvsOK Try.prog device_Device_Read_4_V := ⟨env_cons (entQ_ok device_Device_may_3_ok) (env_nil _), fenv_nil _, denv_nil _⟩
def device_Device_Read_4_XK0 : Shp := ⟨1, 0, [(0, .tu [.d (.sl (.int .u8)), .d (.int .i64)])], []⟩
def device_Device_Read_4_X : XS := .one .ret device_Device_Read_4_XK0.xe
theorem device_Device_Read_4_X_ok : device_Device_Read_4_X.OK := XS.one_ok (shp_ok device_Device_Read_4_XK0)
def device_Device_Read_4 (i : Int) : Option (((List Int) × Int)) :=
  (device_Device_may_3 i).bind fun r =>
  bif neI r 0 then
  some ([], r)
  else
  none
def device_Device_Read_4_S : Sig := ⟨17, [.c .nilp, .d (.int .i64)], [], 0, device_Device_Read_4_X⟩
def device_Device_Read_4_fn (x : Int) : Option (((List Int) × Int)) := device_Device_Read_4 x
theorem device_Device_Read_4_ok : FnOK Try.prog device_Device_Read_4_S device_Device_Read_4_fn :=
  fn_ok device_Device_Read_4_env (h := .no) Try.func17 (hok_of [] (by kernel_rfl) trivial) (by kernel_rfl) device_Device_Read_4_X_ok (fun x => by kernel_rfl)

/- (*device.Device).Write -/
def device_Device_Write_3_V : Env := ⟨[(entQ device_Device_may_3_S device_Device_may_3_fn)], [], []⟩
theorem device_Device_Write_3_env : EnvsOK Try.prog device_Device_Write_3_V := ⟨env_cons (entQ_ok device_Device_may_3_ok) (env_nil _), fenv_nil _, denv_nil _⟩
def device_Device_Write_3_XK0 : Shp := ⟨1, 0, [(0, .d (.int .i64))], []⟩
def device_Device_Write_3_X : XS := .one .ret device_Device_Write_3_XK0.xe
theorem device_Device_Write_3_X_ok : device_Device_Write_3_X.OK := XS.one_ok (shp_ok device_Device_Write_3_XK0)
def device_Device_Write_3 (i : Int) (b : List Int) : Option ((Int)) :=
  (device_Device_may_3 i).bind fun r =>
  bif neI r 0 then
  some r
  else
  shortK (List.length b) (
  bif neI (List.length b : Nat) 256 then
  some 1
  else
  bif Nat.ble 256 (List.length (List.replicate 256 (0 : Int))) then
  none
  else none)
def device_Device_Write_3_S : Sig := ⟨13, [.c .nilp, .d (.int .i64), .d (.sl (.int .u8))], [], 0, device_Device_Write_3_X⟩
def device_Device_Write_3_fn (x : Int × (List Int)) : Option ((Int)) := device_Device_Write_3 x.1 x.2
theorem device_Device_Write_3_ok : FnOK Try.prog device_Device_Write_3_S device_Device_Write_3_fn :=
  fn_ok device_Device_Write_3_env (h := .no) Try.func13 (hok_of [] (by kernel_rfl) trivial) (by kernel_rfl) device_Device_Write_3_X_ok (fun x => by kernel_rfl)

/- (*device.Device).Changes -/
def device_Device_Changes_2_V : Env := ⟨[], [], []⟩
theorem device_Device_Changes_2_env : EnvsOK Try.prog device_Device_Changes_2_V := ⟨env_nil _, fenv_nil _, denv_nil _⟩
def device_Device_Changes_2_XK0 : Shp := ⟨1, 0, [(0, .d (.int .i64))], []⟩
def device_Device_Changes_2_X : XS := .one .ret device_Device_Changes_2_XK0.xe
theorem device_Device_Changes_2_X_ok : device_Device_Changes_2_X.OK := XS.one_ok (shp_ok device_Device_Changes_2_XK0)
def device_Device_Changes_2 (d : (List (List Int)) × (List (Int × (List Int))) × Int × ((List Int) × Int × Int) × Int × Bool) : Option ((Int)) :=
  some d.2.2.2.2.1
def device_Device_Changes_2_S : Sig := ⟨19, [.rf (.d c3)], [], 0, device_Device_Changes_2_X⟩
def device_Device_Changes_2_fn (x : ((List (List Int)) × (List (Int × (List Int))) × Int × ((List Int) × Int × Int) × Int × Bool)) : Option ((Int)) := device_Device_Changes_2 x
theorem device_Device_Changes_2_ok : FnOK Try.prog device_Device_Changes_2_S device_Device_Changes_2_fn :=
  fn_ok device_Device_Changes_2_env (h := .no) Try.func19 (hok_of [] (by kernel_rfl) trivial) (by kernel_rfl) device_Device_Changes_2_X_ok (fun x => by kernel_rfl)

/- (*device.Device).Barrier -/
def device_Device_Barrier_3_V : Env := ⟨[(entQ device_Device_Off_3_S device_Device_Off_3_fn)], [], []⟩
theorem device_Device_Barrier_3_env : EnvsOK Try.prog device_Device_Barrier_3_V := ⟨env_cons (entQ_ok device_Device_Off_3_ok) (env_nil _), fenv_nil _, denv_nil _⟩
def device_Device_Barrier_3_XK0 : Shp := ⟨1, 0, [(0, .d (.int .i64))], []⟩
def device_Device_Barrier_3_X : XS := .one .ret device_Device_Barrier_3_XK0.xe
theorem device_Device_Barrier_3_X_ok : device_Device_Barrier_3_X.OK := XS.one_ok (shp_ok device_Device_Barrier_3_XK0)
def device_Device_Barrier_3  : Option ((Int)) :=
  (device_Device_Off_3).bind fun r =>
  bif r then
  some 6
  else
  none
def device_Device_Barrier_3_S : Sig := ⟨14, [.c .nilp], [], 0, device_Device_Barrier_3_X⟩
def device_Device_Barrier_3_fn (x : Unit) : Option ((Int)) := device_Device_Barrier_3 
theorem device_Device_Barrier_3_ok : FnOK Try.prog device_Device_Barrier_3_S device_Device_Barrier_3_fn :=
  fn_ok device_Device_Barrier_3_env (h := .no) Try.func14 (hok_of [] (by kernel_rfl) trivial) (by kernel_rfl) device_Device_Barrier_3_X_ok (fun x => by kernel_rfl)

/- (*device.Device).On -/
def device_Device_On_3_V : Env := ⟨[], [], []⟩
theorem device_Device_On_3_env : EnvsOK Try.prog device_Device_On_3_V := ⟨env_nil _, fenv_nil _, denv_nil _⟩
def device_Device_On_3_XK0 : Shp := ⟨1, 0, [(0, .d .bool)], []⟩
def device_Device_On_3_X : XS := .one .ret device_Device_On_3_XK0.xe
theorem device_Device_On_3_X_ok : device_Device_On_3_X.OK := XS.one_ok (shp_ok device_Device_On_3_XK0)
def device_Device_On_3  : Option ((Bool)) :=
  some false
def device_Device_On_3_S : Sig := ⟨16, [.c .nilp], [], 0, device_Device_On_3_X⟩
def device_Device_On_3_fn (x : Unit) : Option ((Bool)) := device_Device_On_3 
theorem device_Device_On_3_ok : FnOK Try.prog device_Device_On_3_S device_Device_On_3_fn :=
  fn_ok device_Device_On_3_env (h := .no) Try.func16 (hok_of [] (by kernel_rfl) trivial) (by kernel_rfl) device_Device_On_3_X_ok (fun x => by kernel_rfl)

/- wardshiplaw03.fits -/
def law03_fits_V : Env := ⟨[], [], []⟩
theorem law03_fits_env : EnvsOK Try.prog law03_fits_V := ⟨env_nil _, fenv_nil _, denv_nil _⟩
def law03_fits_l1_1_0_1_0XK0 : Shp := ⟨36, 0, [], []⟩
def law03_fits_l1_1_0_1_0XK1 : Shp := ⟨36, 0, [(4, .d .bool)], []⟩
def law03_fits_l1_1_0_1_0X : XS := .or (.exit 0) law03_fits_l1_1_0_1_0XK0.xe (.one .ret law03_fits_l1_1_0_1_0XK1.xe)
theorem law03_fits_l1_1_0_1_0X_ok : law03_fits_l1_1_0_1_0X.OK := XS.or_ok (shp_ok law03_fits_l1_1_0_1_0XK0) (XS.one_ok (shp_ok law03_fits_l1_1_0_1_0XK1))
def law03_fits_l1_1_0_1_0S : Shp := ⟨36, 0, [(18, .d c5), (19, .d (.int .i64)), (20, .d (.int .i64))], []⟩
def law03_fits_l1_1_0_1_0r (t18 : List (Int × Int × Int × (List Int) × Bool × ((List Int) × Int × Int))) (t19 : Int) (t20 : Int) : Option (((List (Int × Int × Int × (List Int) × Bool × ((List Int) × Int × Int))) × Int × Int) ⊕ ((Unit) ⊕ (Bool))) :=
  bif ltI t20 t19 then
  (idxI t18 t20).bind fun x =>
  shortK (List.length x.2.2.2.1) (
  bif ltI 300 (List.length x.2.2.2.1 : Nat) then
  some (.inr (.inr false))
  else
  shortK (List.length x.2.2.2.2.2.1) (
  bif ltI 70 (List.length x.2.2.2.2.2.1 : Nat) then
  some (.inr (.inr false))
  else
  some (.inl (t18, t19, W64 (t20 + 1)))))
  else
  some (.inr (.inl ()))
def law03_fits_l1_1_0_1_0g (s : (List (Int × Int × Int × (List Int) × Bool × ((List Int) × Int × Int))) × Int × Int) : Option (((List (Int × Int × Int × (List Int) × Bool × ((List Int) × Int × Int))) × Int × Int) ⊕ ((Unit) ⊕ (Bool))) := law03_fits_l1_1_0_1_0r s.1 s.2.1 s.2.2
theorem law03_fits_l1_1_0_1_0_ok : SoundD Try.prog (.loop (subC (bodyC Try.f10) [1, 1, 0, 1, 0, 0])) (loopD law03_fits_l1_1_0_1_0S.xe law03_fits_l1_1_0_1_0X (loopC law03_fits_l1_1_0_1_0g)) :=
  loop_sound (S := law03_fits_l1_1_0_1_0S.xe) (X := law03_fits_l1_1_0_1_0X) law03_fits_env (h := .no) (hok_of [] (by kernel_rfl) trivial) (shp_ok law03_fits_l1_1_0_1_0S) law03_fits_l1_1_0_1_0X_ok law03_fits_l1_1_0_1_0g (fun s => by kernel_rfl)
def law03_fits_XK0 : Shp := ⟨1, 0, [(0, .d .bool)], []⟩
def law03_fits_X : XS := .one .ret law03_fits_XK0.xe
theorem law03_fits_X_ok : law03_fits_X.OK := XS.one_ok (shp_ok law03_fits_XK0)
def law03_fits (sectors : Int) (script : List (Int × Int × Int × (List Int) × Bool × ((List Int) × Int × Int))) : Option ((Bool)) :=
  bif ltI sectors 1 then
  some false
  else
  bif ltI 10 sectors then
  some false
  else
  shortK (List.length script) (
  bif ltI 60 (List.length script : Nat) then
  some false
  else
  shortK (List.length script) (
  (loopC law03_fits_l1_1_0_1_0g (script, (List.length script : Nat), 0)).bind fun o =>
  Sum.elim (fun y =>
  some true) (fun y2 =>
  some y2) o))
def law03_fits_S : Sig := ⟨10, [.d (.int .i64), .d c5], [], 0, law03_fits_X⟩
def law03_fits_fn (x : Int × (List (Int × Int × Int × (List Int) × Bool × ((List Int) × Int × Int)))) : Option ((Bool)) := law03_fits x.1 x.2
theorem law03_fits_ok : FnOK Try.prog law03_fits_S law03_fits_fn :=
  fn_ok law03_fits_env (h := (.two .no (.two .no (.two (.two .no (.over (loopD law03_fits_l1_1_0_1_0S.xe law03_fits_l1_1_0_1_0X (loopC law03_fits_l1_1_0_1_0g)))) .no)))) Try.func10 (hok_of [.den (.loop (subC (bodyC Try.f10) [1, 1, 0, 1, 0, 0])) (loopD law03_fits_l1_1_0_1_0S.xe law03_fits_l1_1_0_1_0X (loopC law03_fits_l1_1_0_1_0g))] (by kernel_rfl) ⟨law03_fits_l1_1_0_1_0_ok, trivial⟩) (by kernel_rfl) law03_fits_X_ok (fun x => by kernel_rfl)

/- (*device.Device).Loose -/
def device_Device_Loose_2_V : Env := ⟨[], [], []⟩
theorem device_Device_Loose_2_env : EnvsOK Try.prog device_Device_Loose_2_V := ⟨env_nil _, fenv_nil _, denv_nil _⟩
def device_Device_Loose_2_XK0 : Shp := ⟨1, 0, [(0, .d (.int .i64))], []⟩
def device_Device_Loose_2_X : XS := .one .ret device_Device_Loose_2_XK0.xe
theorem device_Device_Loose_2_X_ok : device_Device_Loose_2_X.OK := XS.one_ok (shp_ok device_Device_Loose_2_XK0)
def device_Device_Loose_2 (d : (List (List Int)) × (List (Int × (List Int))) × Int × ((List Int) × Int × Int) × Int × Bool) : Option ((Int)) :=
  shortK (List.length d.2.1) (
  some (List.length d.2.1 : Nat))
def device_Device_Loose_2_S : Sig := ⟨18, [.rf (.d c3)], [], 0, device_Device_Loose_2_X⟩
def device_Device_Loose_2_fn (x : ((List (List Int)) × (List (Int × (List Int))) × Int × ((List Int) × Int × Int) × Int × Bool)) : Option ((Int)) := device_Device_Loose_2 x
theorem device_Device_Loose_2_ok : FnOK Try.prog device_Device_Loose_2_S device_Device_Loose_2_fn :=
  fn_ok device_Device_Loose_2_env (h := .no) Try.func18 (hok_of [] (by kernel_rfl) trivial) (by kernel_rfl) device_Device_Loose_2_X_ok (fun x => by kernel_rfl)

/- wardshiplaw03.full -/
def law03_full_2_V : Env := ⟨[], [], []⟩
theorem law03_full_2_env : EnvsOK Try.prog law03_full_2_V := ⟨env_nil _, fenv_nil _, denv_nil _⟩
def law03_full_2_l1_1_0_1_0XK0 : Shp := ⟨22, 0, [(1, .d .str), (5, .wn 0 (.int .u8))], [.row 5 (.int .u8)]⟩
def law03_full_2_l1_1_0_1_0X : XS := .one (.exit 0) law03_full_2_l1_1_0_1_0XK0.xe
theorem law03_full_2_l1_1_0_1_0X_ok : law03_full_2_l1_1_0_1_0X.OK := XS.one_ok (shp_ok law03_full_2_l1_1_0_1_0XK0)
def law03_full_2_l1_1_0_1_0S : Shp := ⟨22, 0, [(0, .d (.int .u8)), (1, .d .str), (5, .wn 0 (.int .u8)), (9, .d (.int .i64)), (10, .d (.int .i64))], [.row 5 (.int .u8)]⟩
def law03_full_2_l1_1_0_1_0r (c : Int) (t1 : List Int) (t9 : Int) (t10 : Int) (b : List Int) : Option ((Int × (List Int) × Int × Int × (List Int)) ⊕ (((List Int) × (List Int)))) :=
  bif ltI t10 t9 then
  bif inI t10 (List.length b) then
  (b[t10.toNat]?).bind fun _x =>
  bif Nat.beq (List.length b) (List.length (b.set t10.toNat c)) then
  some (.inl (c, t1, t9, W64 (t10 + 1), b.set t10.toNat c))
  else none
  else none
  else
  bif Nat.beq (List.length b) (List.length b) then
  some (.inr (t1, b))
  else none
def law03_full_2_l1_1_0_1_0g (s : Int × (List Int) × Int × Int × (List Int)) : Option ((Int × (List Int) × Int × Int × (List Int)) ⊕ (((List Int) × (List Int)))) := law03_full_2_l1_1_0_1_0r s.1 s.2.1 s.2.2.1 s.2.2.2.1 s.2.2.2.2
theorem law03_full_2_l1_1_0_1_0_ok : SoundD Try.prog (.loop (subC (bodyC Try.f12) [1, 1, 0, 1, 0, 0])) (loopD law03_full_2_l1_1_0_1_0S.xe law03_full_2_l1_1_0_1_0X (loopC law03_full_2_l1_1_0_1_0g)) :=
  loop_sound (S := law03_full_2_l1_1_0_1_0S.xe) (X := law03_full_2_l1_1_0_1_0X) law03_full_2_env (h := .no) (hok_of [] (by kernel_rfl) trivial) (shp_ok law03_full_2_l1_1_0_1_0S) law03_full_2_l1_1_0_1_0X_ok law03_full_2_l1_1_0_1_0g (fun s => by kernel_rfl)
def law03_full_2_XK0 : Shp := ⟨1, 0, [(0, .wn 0 (.int .u8))], [.row 5 (.int .u8)]⟩
def law03_full_2_X : XS := .one .ret law03_full_2_XK0.xe
theorem law03_full_2_X_ok : law03_full_2_X.OK := XS.one_ok (shp_ok law03_full_2_XK0)
def law03_full_2 (c : Int) (t1 : List Int) : Option (((List Int))) :=
  bif Nat.beq 256 (List.length (List.replicate 256 (0 : Int))) then
  (loopC law03_full_2_l1_1_0_1_0g (c, t1, 256, 0, List.replicate 256 (0 : Int))).bind fun o =>
  bif Nat.ble (List.length o.2) (List.length o.2) then
  bif Nat.beq (List.length o.2) (List.length (cpyL o.2 0 (List.length o.2) o.1)) then
  some (cpyL o.2 0 (List.length o.2) o.1)
  else none
  else none
  else none
def law03_full_2_S : Sig := ⟨12, [.d (.int .u8), .d .str], [], 0, law03_full_2_X⟩
def law03_full_2_fn (x : Int × (List Int)) : Option (((List Int))) := law03_full_2 x.1 x.2
theorem law03_full_2_ok : FnOK Try.prog law03_full_2_S law03_full_2_fn :=
  fn_ok law03_full_2_env (h := (.two .no (.two .no (.two (.two .no (.over (loopD law03_full_2_l1_1_0_1_0S.xe law03_full_2_l1_1_0_1_0X (loopC law03_full_2_l1_1_0_1_0g)))) .no)))) Try.func12 (hok_of [.den (.loop (subC (bodyC Try.f12) [1, 1, 0, 1, 0, 0])) (loopD law03_full_2_l1_1_0_1_0S.xe law03_full_2_l1_1_0_1_0X (loopC law03_full_2_l1_1_0_1_0g))] (by kernel_rfl) ⟨law03_full_2_l1_1_0_1_0_ok, trivial⟩) (by kernel_rfl) law03_full_2_X_ok (fun x => by kernel_rfl)

/- (*device.Device).Write -/
def device_Device_Write_4_V : Env := ⟨[(entQ device_Device_may_S device_Device_may_fn), (entQ slices_Clip_S slices_Clip_fn)], [(entP device_Device_change_S device_Device_change_fn)], []⟩
theorem device_Device_Write_4_env : EnvsOK Try.prog device_Device_Write_4_V := ⟨env_cons (entQ_ok device_Device_may_ok) (env_cons (entQ_ok slices_Clip_ok) (env_nil _)), fenv_cons (entP_ok device_Device_change_ok) (fenv_nil _), denv_nil _⟩
def device_Device_Write_4_XK0 : Shp := ⟨1, 2, [(0, .d (.int .i64))], [.var 61 (.ag [.wn 2 c0, .d c1, .d (.int .i64), .d c2, .d (.int .i64), .d .bool]), .row 5 (.int .u8), .row 64 c0]⟩
def device_Device_Write_4_X : XS := .one .ret device_Device_Write_4_XK0.xe
theorem device_Device_Write_4_X_ok : device_Device_Write_4_X.OK := XS.one_ok (shp_ok device_Device_Write_4_XK0)
def device_Device_Write_4 (i : Int) (d : List (Int × (List Int))) (d2 : Int) (d3 : (List Int) × Int × Int) (d4 : Int) (d5 : Bool) (b : List Int) (d6 : List (List Int)) : Option ((Int × (List (Int × (List Int))) × Int × ((List Int) × Int × Int) × Int × Bool × (List Int) × (List (List Int)))) :=
  winK d6 0 (List.length d6) fun w =>
  (device_Device_may (w, d, d2, d3, d4, d5) i).bind fun r =>
  bif neI r 0 then
  bif Nat.beq (List.length d6) (List.length d6) then
  some (r, d, d2, d3, d4, d5, b, d6)
  else none
  else
  shortK (List.length b) (
  bif neI (List.length b : Nat) 256 then
  bif Nat.beq (List.length d6) (List.length d6) then
  some (1, d, d2, d3, d4, d5, b, d6)
  else none
  else
  winK b 0 (List.length b) fun w2 =>
  bif Nat.ble 256 (List.length (List.replicate 256 (0 : Int))) then
  (slices_Clip d).bind fun r2 =>
  appG (List.length r2) (List.length (([(i, cpyL (List.replicate 256 (0 : Int)) 0 256 w2)] : List (Int × (List Int))))) 264 fun _ =>
  bif Nat.beq (List.length d6) (List.length d6) then
  (device_Device_change (r2 ++ (([(i, cpyL (List.replicate 256 (0 : Int)) 0 256 w2)] : List (Int × (List Int))))) d2 d3 d4 d5 d6).bind fun r3 =>
  bif Nat.beq (List.length r3.2.2.2.2.2.2) (List.length r3.2.2.2.2.2.2) then
  some (r3.1, r3.2.1, r3.2.2.1, r3.2.2.2.1, r3.2.2.2.2.1, r3.2.2.2.2.2.1, b, r3.2.2.2.2.2.2)
  else none
  else none
  else none)
def device_Device_Write_4_S : Sig := ⟨13, [.pt 0 (.one (.st (.cons .leaf (.cons .leaf (.cons .leaf (.cons (.st (.cons .leaf (.cons .leaf (.one .leaf)))) (.cons .leaf (.one .leaf)))))))) [], .d (.int .i64), .wn 1 (.int .u8)], [.var 61 (.ag [.wn 2 c0, .d c1, .d (.int .i64), .d c2, .d (.int .i64), .d .bool]), .row 5 (.int .u8), .row 64 c0], 2, device_Device_Write_4_X⟩
def device_Device_Write_4_fn (x : Int × (List (Int × (List Int))) × Int × ((List Int) × Int × Int) × Int × Bool × (List Int) × (List (List Int))) : Option ((Int × (List (Int × (List Int))) × Int × ((List Int) × Int × Int) × Int × Bool × (List Int) × (List (List Int)))) := device_Device_Write_4 x.1 x.2.1 x.2.2.1 x.2.2.2.1 x.2.2.2.2.1 x.2.2.2.2.2.1 x.2.2.2.2.2.2.1 x.2.2.2.2.2.2.2
theorem device_Device_Write_4_ok : FnOK Try.prog device_Device_Write_4_S device_Device_Write_4_fn :=
  fn_ok device_Device_Write_4_env (h := .no) Try.func13 (hok_of [] (by kernel_rfl) trivial) (by kernel_rfl) device_Device_Write_4_X_ok (fun x => by kernel_rfl)

end Go.Proofs.Ytamfpgmpofncoaa

/- Devices: what the functions come to. -/
set_option linter.unusedSimpArgs false
set_option linter.unusedVariables false
namespace Go.Proofs.Ytamfpgmpofncoaa
open Go.Tm Go.Ab

theorem ble_self (n : Nat) : Nat.ble n n = true := Nat.ble_eq.mpr (Nat.le_refl n)
theorem beq_self (n : Nat) : Nat.beq n n = true := Nat.beq_refl n

theorem win_all {R α : Type} (l : List α) (n : Nat) (h : n = l.length) (k : List α → Option R) : winK l 0 n k = k l := by
  subst h
  unfold winK
  have : addN 0 (List.length l) = List.length l := rfl
  rw [this, ble_self]
  simp [subN]

theorem cpy_all {α : Type} (l m : List α) : cpyL l 0 l.length m = m.take l.length ++ l.drop m.length := by
  unfold cpyL
  rw [List.take_zero, List.nil_append, Nat.zero_add]
  rcases Nat.le_total m.length l.length with h | h
  · rw [Nat.min_eq_left h, List.take_length, List.take_of_length_le h]
  · rw [Nat.min_eq_right h, List.drop_length, List.drop_eq_nil_of_le h]

/-- a sector of a byte, and what is at its beginning -/
def fullS (c : Int) (t : List Int) : List Int := t.take 256 ++ List.replicate (256 - t.length) c

theorem full_loop (c : Int) (t : List Int) (m : Nat) (hm : m < 1000000) : loopC law03_full_l1_1_0_1_0g (c, t, (m : Int), 0, List.replicate m 0) = some (t, List.replicate m c) := by
  have := loop_run law03_full_l1_1_0_1_0g (fun i => (c, t, (m : Int), (i : Int), List.replicate i c ++ List.replicate (m - i) (0 : Int))) (fun _ => (t, List.replicate m c)) m ?_ ?_
  · simpa using this
  · unfold law03_full_l1_1_0_1_0g law03_full_l1_1_0_1_0r
    rw [ltI_f (by simp), beq_self]
    simp
  · intro i hi
    refine .inl ⟨?_, rfl⟩
    unfold law03_full_l1_1_0_1_0g law03_full_l1_1_0_1_0r
    have hl : (List.replicate i c ++ List.replicate (m - i) (0 : Int)).length = m := by simp; omega
    have hset : (List.replicate i c ++ List.replicate (m - i) (0 : Int)).set i c = List.replicate (i + 1) c ++ List.replicate (m - (i + 1)) 0 := by
      rw [List.set_append_right _ _ (by simp), List.length_replicate, Nat.sub_self, show m - i = (m - (i + 1)) + 1 by omega, List.replicate_succ, List.set_cons_zero, List.replicate_succ' (n := i), List.append_assoc]
      rfl
    have hget : (List.replicate i c ++ List.replicate (m - i) (0 : Int))[i]? = some 0 := by
      rw [List.getElem?_append_right (by simp), List.length_replicate, Nat.sub_self, show m - i = (m - (i + 1)) + 1 by omega, List.replicate_succ]; rfl
    have hset2 : (List.replicate (i + 1) c ++ List.replicate (m - (i + 1)) (0 : Int)).length = m := by simp; omega
    simp only [Int.toNat_natCast, hl, hset, hset2, hget, Option.bind_some]
    rw [ltI_t (by omega), inI_t (by omega), W64_in (by omega), beq_self]
    rfl

theorem full_is (c : Int) (t : List Int) : law03_full c t = some (fullS c t) := by
  unfold law03_full
  have h0 := full_loop c t 256 (by omega)
  rw [show ((256 : Nat) : Int) = 256 from rfl] at h0
  have e : cpyL (List.replicate 256 c) 0 256 t = fullS c t := by
    have := cpy_all (List.replicate 256 c) t
    rw [List.length_replicate] at this
    rw [this, fullS, List.drop_replicate]
  have hl : 256 = (fullS c t).length := by unfold fullS; rw [List.length_append, List.length_take, List.length_replicate]; omega
  rw [h0]
  simp only [Option.bind_some, List.length_replicate]
  rw [e, win_all _ _ hl]
  rfl

theorem short_ok {R : Type} {n : Nat} (h : n ≤ 9223372036854775807) (k : Option R) : shortK n k = k := by
  unfold shortK; rw [Nat.ble_eq.mpr h]; rfl

theorem idx_at {α : Type} {l : List α} {i : Nat} : idxI l (i : Int) = l[i]? := by
  unfold idxI; rw [leI_t (Int.natCast_nonneg i)]; simp

theorem sub_all (n : Nat) : subOk 0 (n : Int) n = true := by
  simp [subOk, leI]

/-- from one place on: is it there? -/
theorem index_loop (l : List Int) (v : Int) (hl : l.length < 1000000) :
    ∀ (k i : Nat), i + k = l.length → loopC slices_Index_l1_0_1_0g (l, v, (l.length : Nat), (i : Int)) = some (match (l.drop i).findIdx? (fun x => decide (v = x)) with | some j => .inr ((i + j : Nat) : Int) | none => .inl ())
  | 0, i, h => by
    rw [loopC_eq]
    unfold slices_Index_l1_0_1_0g slices_Index_l1_0_1_0r
    rw [ltI_f (by simp; omega), List.drop_eq_nil_of_le (by omega)]
    rfl
  | k + 1, i, h => by
    have hi : i < l.length := by omega
    rw [loopC_eq, show slices_Index_l1_0_1_0g (l, v, (l.length : Nat), (i : Int)) = slices_Index_l1_0_1_0r l v (l.length : Nat) (i : Int) from rfl]
    unfold slices_Index_l1_0_1_0r
    rw [ltI_t (by omega), idx_at, List.getElem?_eq_getElem hi, List.drop_eq_getElem_cons hi]
    simp only [Option.bind_some, cond_true, List.findIdx?_cons]
    by_cases hx : v = l[i]
    · rw [eqI_t hx]
      simp [hx]
    · rw [eqI_f hx]
      simp only [hx, decide_false, cond_false, Option.bind_some, Sum.elim_inl, Bool.false_eq_true, if_false]
      have ih := index_loop l v hl k (i + 1) (by omega)
      rw [W64_in (by omega), show ((i : Int) + 1) = ((i + 1 : Nat) : Int) by simp, ih]
      cases hf : (l.drop (i + 1)).findIdx? (fun x => decide (v = x)) with
      | none => simp
      | some j => simp; omega

theorem contains_is (l : List Int) (v : Int) (hl : l.length < 1000000) : slices_Contains l v = some (decide (v ∈ l)) := by
  unfold slices_Contains slices_Index
  rw [short_ok (by omega)]
  have := index_loop l v hl l.length 0 (by omega)
  rw [show ((0 : Nat) : Int) = 0 from rfl] at this
  rw [this]
  simp only [List.drop_zero, Option.bind_some]
  cases hf : l.findIdx? (fun x => decide (v = x)) with
  | none =>
    have hn : v ∉ l := fun hm => by
      rw [List.findIdx?_eq_none_iff] at hf
      have := hf v hm
      simp at this
    simp [hn, leI]
  | some j =>
    have hm : v ∈ l := by
      rw [List.findIdx?_eq_some_iff_getElem] at hf
      obtain ⟨h1, h2, _⟩ := hf
      simp at h2
      rw [h2]; exact List.getElem_mem h1
    simp [hm, leI]

/-! ### cuts -/
def tornN (c : List Int × Int × Int) (k : Nat) : Int := if (k : Int) ∈ c.1 then 256 else if c.2.1 = (k : Int) then maxI 0 (minI c.2.2 256) else 0

theorem tornN_in (c : List Int × Int × Int) (k : Nat) : 0 ≤ tornN c k ∧ tornN c k ≤ 256 := by
  unfold tornN
  split
  · omega
  · split
    · simp only [maxI, minI]; split <;> split <;> omega
    · omega

def putS (sure : List (List Int)) (w : Int × List Int) (n : Nat) : List (List Int) := sure.set w.1.toNat (w.2.take n ++ ((sure[w.1.toNat]?).getD []).drop n)

def cutS (c : List Int × Int × Int) : List (Int × List Int) → Nat → List (List Int) → List (List Int)
  | [], _, s => s
  | w :: ws, k, s => cutS c ws (k + 1) (putS s w (tornN c k).toNat)

theorem putS_len (sure : List (List Int)) (w : Int × List Int) (n : Nat) : (putS sure w n).length = sure.length := by simp [putS]

/-- sectors, and writes to them -/
structure OkD (loose : List (Int × List Int)) (sure : List (List Int)) : Prop where
  s : ∀ x, x ∈ sure → x.length = 256
  w : ∀ w, w ∈ loose → 0 ≤ w.1 ∧ w.1 < sure.length ∧ w.2.length = 256

theorem putS_ok {sure : List (List Int)} {w : Int × List Int} {n : Nat} (hs : ∀ x, x ∈ sure → x.length = 256) (h0 : 0 ≤ w.1) (h1 : w.1 < sure.length) (h2 : w.2.length = 256) (hn : n ≤ 256) : ∀ x, x ∈ putS sure w n → x.length = 256 := fun x hx => by
  unfold putS at hx
  rcases List.mem_or_eq_of_mem_set hx with hx | rfl
  · exact hs x hx
  · have hlt : w.1.toNat < sure.length := by omega
    have := hs _ (List.getElem_mem hlt)
    rw [List.getElem?_eq_getElem hlt, Option.getD_some, List.length_append, List.length_take, List.length_drop, this]
    omega

theorem cut_loop (loose : List (Int × List Int)) (d2 : Int) (d3 : List Int × Int × Int) (d4 : Int) (d5 : Bool) (d : List (Int × List Int)) (c : List Int × Int × Int) (hl : loose.length < 1000000) (hc : c.1.length < 1000000) :
    ∀ (k i : Nat) (sure : List (List Int)), i + k = loose.length → OkD loose sure →
      loopC device_Device_Cut_l1_1_0_1_0g (loose, (loose.length : Nat), (i : Int), d, d2, d3, d4, d5, c, sure) = some (d, d2, d3, d4, d5, cutS c (loose.drop i) i sure)
  | 0, i, sure, h, ok => by
    rw [loopC_eq, show device_Device_Cut_l1_1_0_1_0g (loose, (loose.length : Nat), (i : Int), d, d2, d3, d4, d5, c, sure) = device_Device_Cut_l1_1_0_1_0r loose (loose.length : Nat) (i : Int) d d2 d3 d4 d5 c sure from rfl]
    unfold device_Device_Cut_l1_1_0_1_0r
    rw [ltI_f (by simp; omega), List.drop_eq_nil_of_le (by omega)]
    simp only [beq_self, cond_true, cond_false, Option.bind_some, Sum.elim_inr, cutS]
  | k + 1, i, sure, h, ok => by
    have hi : i < loose.length := by omega
    have hw := ok.w _ (List.getElem_mem hi)
    have hlt : loose[i].1.toNat < sure.length := by omega
    have hsl := ok.s _ (List.getElem_mem hlt)
    have ht := tornN_in c i
    rw [loopC_eq, show device_Device_Cut_l1_1_0_1_0g (loose, (loose.length : Nat), (i : Int), d, d2, d3, d4, d5, c, sure) = device_Device_Cut_l1_1_0_1_0r loose (loose.length : Nat) (i : Int) d d2 d3 d4 d5 c sure from rfl]
    unfold device_Device_Cut_l1_1_0_1_0r
    rw [ltI_t (by omega), idx_at, List.getElem?_eq_getElem hi, contains_is _ _ hc]
    simp only [Option.bind_some, cond_true, beq_self]
    have hj : (bif decide ((i : Int) ∈ c.1) then some ((256 : Int), loose, ((loose.length : Nat) : Int), (i : Int), d, d2, d3, d4, d5, c, loose[i], sure)
        else bif eqI c.2.1 i then some (maxI 0 (minI c.2.2 256), loose, ((loose.length : Nat) : Int), (i : Int), d, d2, d3, d4, d5, c, loose[i], sure)
        else some (0, loose, ((loose.length : Nat) : Int), (i : Int), d, d2, d3, d4, d5, c, loose[i], sure)) = some (tornN c i, loose, ((loose.length : Nat) : Int), (i : Int), d, d2, d3, d4, d5, c, loose[i], sure) := by
      unfold tornN
      by_cases h1 : (i : Int) ∈ c.1
      · simp [h1]
      · by_cases h2 : c.2.1 = (i : Int)
        · simp [h1, h2, eqI]
        · simp [h1, h2, eqI]
    rw [hj]
    simp only [Option.bind_some]
    rw [inI_t (by omega), List.getElem?_eq_getElem hlt]
    simp only [Option.bind_some, cond_true]
    rw [show subOk 0 (tornN c i) 256 = true by simp [subOk, leI]; omega, win_all _ _ hw.2.2.symm]
    simp only [cond_true]
    have hcp : cpyL sure[loose[i].1.toNat] 0 (tornN c i).toNat loose[i].2 = loose[i].2.take (tornN c i).toNat ++ sure[loose[i].1.toNat].drop (tornN c i).toNat := by
      unfold cpyL
      rw [Nat.min_eq_right (by omega)]
      simp
    have hput : sure.set loose[i].1.toNat (loose[i].2.take (tornN c i).toNat ++ sure[loose[i].1.toNat].drop (tornN c i).toNat) = putS sure loose[i] (tornN c i).toNat := by
      unfold putS; rw [List.getElem?_eq_getElem hlt, Option.getD_some]
    rw [show Nat.ble (tornN c i).toNat sure[loose[i].1.toNat].length = true from Nat.ble_eq.mpr (by omega), hcp, hput, putS_len, beq_self]
    simp only [cond_true, Option.bind_some, Sum.elim_inl]
    rw [W64_in (by omega), show ((i : Int) + 1) = ((i + 1 : Nat) : Int) by simp, cut_loop loose d2 d3 d4 d5 d c hl hc k (i + 1) _ (by omega)
      ⟨putS_ok ok.s hw.1 hw.2.1 hw.2.2 (by omega), fun w hm => by rw [putS_len]; exact ok.w w hm⟩, List.drop_eq_getElem_cons hi]
    rfl

abbrev DevT := List (Int × List Int) × Int × (List Int × Int × Int) × Int × Bool × List (List Int)

def whyS (off : Bool) (n : Nat) (i : Int) : Int := if off then 6 else if 0 ≤ i ∧ i < n then 0 else 2

theorem may_is (s : List (List Int)) (l : List (Int × List Int)) (d2 : Int) (d3 : List Int × Int × Int) (d4 : Int) (off : Bool) (i : Int) (hs : s.length < 1000000) : device_Device_may (s, l, d2, d3, d4, off) i = some (whyS off s.length i) := by
  unfold device_Device_may device_Device_Off whyS
  simp only [Option.bind_some]
  cases off with
  | true => rfl
  | false =>
    simp only [cond_false, Bool.false_eq_true, if_false]
    by_cases h0 : i < 0
    · rw [ltI_t h0, if_neg (by omega)]; rfl
    · rw [ltI_f h0, short_ok (by omega)]
      by_cases h1 : i < s.length
      · rw [leI_f (by omega), if_pos (by omega)]; rfl
      · rw [leI_t (by omega), if_neg (by omega)]; rfl

def cutD (c : List Int × Int × Int) (x : DevT) : DevT := if x.2.2.2.2.1 then x else ([], -1, x.2.2.1, x.2.2.2.1, true, cutS c x.1 0 x.2.2.2.2.2)

theorem cutS_len (c : List Int × Int × Int) : ∀ (l : List (Int × List Int)) (k : Nat) (s : List (List Int)), (cutS c l k s).length = s.length
  | [], _, _ => rfl
  | w :: ws, k, s => by simp only [cutS]; rw [cutS_len c ws, putS_len]

theorem cut_is (c : List Int × Int × Int) (l : List (Int × List Int)) (d2 : Int) (d3 : List Int × Int × Int) (d4 : Int) (off : Bool) (s : List (List Int)) (hl : l.length < 1000000) (hc : c.1.length < 1000000) (ok : OkD l s) :
    device_Device_Cut c l d2 d3 d4 off s = some (cutD c (l, d2, d3, d4, off, s)) := by
  unfold device_Device_Cut device_Device_Off cutD
  rw [win_all _ _ rfl]
  simp only [Option.bind_some, beq_self, cond_true]
  cases off with
  | true => rfl
  | false =>
    simp only [cond_false, Bool.false_eq_true, if_false]
    rw [short_ok (by omega)]
    have := cut_loop l d2 d3 d4 false l c hl hc l.length 0 s (by omega) ok
    rw [show ((0 : Nat) : Int) = 0 from rfl] at this
    rw [this]
    simp only [Option.bind_some, beq_self, cond_true, List.drop_zero]

/-- a change -/
def changeD (x : DevT) : Int × DevT :=
  if x.2.1 < 0 then (0, x.1, x.2.1, x.2.2.1, x.2.2.2.1 + 1, x.2.2.2.2.1, x.2.2.2.2.2)
  else if x.2.1 = 0 then (6, cutD x.2.2.1 (x.1, -1, x.2.2.1, x.2.2.2.1 + 1, x.2.2.2.2.1, x.2.2.2.2.2))
  else (0, x.1, x.2.1 - 1, x.2.2.1, x.2.2.2.1 + 1, x.2.2.2.2.1, x.2.2.2.2.2)

/-- a device -/
structure OkDev (x : DevT) : Prop where
  d : OkD x.1 x.2.2.2.2.2
  l : x.1.length < 900000
  left : -1 ≤ x.2.1 ∧ x.2.1 ≤ 9223372036854775807
  c : x.2.2.1.1.length < 1000000
  n : 0 ≤ x.2.2.2.1 ∧ x.2.2.2.1 < 1000000000
  s : x.2.2.2.2.2.length < 1000000

theorem change_is (l : List (Int × List Int)) (d2 : Int) (d3 : List Int × Int × Int) (d4 : Int) (off : Bool) (s : List (List Int)) (hl : l.length < 1000000) (hc : d3.1.length < 1000000) (h2 : -1 ≤ d2 ∧ d2 ≤ 9223372036854775807) (h4 : 0 ≤ d4 ∧ d4 < 1000000000) (ok : OkD l s) :
    device_Device_change l d2 d3 d4 off s = some (changeD (l, d2, d3, d4, off, s)) := by
  unfold device_Device_change changeD
  simp only [beq_self, cond_true]
  rw [W64_in (n := d4 + 1) (by omega)]
  by_cases h : d2 < 0
  · rw [ltI_t h, if_pos h]; rfl
  · rw [ltI_f h, if_neg h, W64_in (n := d2 - 1) (by omega)]
    by_cases h0 : d2 = 0
    · subst h0
      rw [ltI_t (by omega), if_pos rfl]
      simp only [cond_true, cond_false]
      rw [show (0 : Int) - 1 = -1 from rfl, cut_is _ _ _ _ _ _ _ hl hc ok]
      rfl
    · rw [ltI_f (by omega), if_neg h0]; rfl

theorem on_is (l : List (Int × List Int)) (d2 : Int) (d3 : List Int × Int × Int) (d4 : Int) (off : Bool) (s : List (List Int)) : device_Device_On l d2 d3 d4 off s = some (off, l, d2, d3, d4, false, s) := by
  unfold device_Device_On
  simp only [beq_self, cond_true]
  cases off <;> rfl

/-! ### barriers -/
def sureS : List (Int × List Int) → List (List Int) → List (List Int)
  | [], s => s
  | w :: ws, s => sureS ws (s.set w.1.toNat w.2)

theorem sureS_len : ∀ (l : List (Int × List Int)) (s : List (List Int)), (sureS l s).length = s.length
  | [], _ => rfl
  | w :: ws, s => by simp only [sureS]; rw [sureS_len ws, List.length_set]

theorem set_ok {sure : List (List Int)} {w : Int × List Int} (hs : ∀ x, x ∈ sure → x.length = 256) (h2 : w.2.length = 256) : ∀ x, x ∈ sure.set w.1.toNat w.2 → x.length = 256 := fun x hx => by
  rcases List.mem_or_eq_of_mem_set hx with hx | rfl
  · exact hs x hx
  · exact h2

theorem barrier_loop (loose d : List (Int × List Int)) (d2 : Int) (d3 : List Int × Int × Int) (d4 : Int) (d5 : Bool) (hl : loose.length < 1000000) :
    ∀ (k i : Nat) (sure : List (List Int)), i + k = loose.length → OkD loose sure →
      loopC device_Device_Barrier_l1_1_1_0_1_0g (loose, (loose.length : Nat), (i : Int), d, d2, d3, d4, d5, sure) = some (d, d2, d3, d4, d5, sureS (loose.drop i) sure)
  | 0, i, sure, h, ok => by
    rw [loopC_eq, show device_Device_Barrier_l1_1_1_0_1_0g (loose, (loose.length : Nat), (i : Int), d, d2, d3, d4, d5, sure) = device_Device_Barrier_l1_1_1_0_1_0r loose (loose.length : Nat) (i : Int) d d2 d3 d4 d5 sure from rfl]
    unfold device_Device_Barrier_l1_1_1_0_1_0r
    rw [ltI_f (by simp; omega), List.drop_eq_nil_of_le (by omega)]
    simp only [beq_self, cond_true, cond_false, Option.bind_some, Sum.elim_inr, sureS]
  | k + 1, i, sure, h, ok => by
    have hi : i < loose.length := by omega
    have hw := ok.w _ (List.getElem_mem hi)
    have hlt : loose[i].1.toNat < sure.length := by omega
    rw [loopC_eq, show device_Device_Barrier_l1_1_1_0_1_0g (loose, (loose.length : Nat), (i : Int), d, d2, d3, d4, d5, sure) = device_Device_Barrier_l1_1_1_0_1_0r loose (loose.length : Nat) (i : Int) d d2 d3 d4 d5 sure from rfl]
    unfold device_Device_Barrier_l1_1_1_0_1_0r
    rw [ltI_t (by omega), idx_at, List.getElem?_eq_getElem hi]
    simp only [Option.bind_some, cond_true]
    rw [inI_t (by omega), List.getElem?_eq_getElem hlt, List.length_set, beq_self]
    simp only [cond_true, Option.bind_some, Sum.elim_inl]
    rw [W64_in (by omega), show ((i : Int) + 1) = ((i + 1 : Nat) : Int) by simp, barrier_loop loose d d2 d3 d4 d5 hl k (i + 1) _ (by omega)
      ⟨set_ok ok.s hw.2.2, fun w hm => by rw [List.length_set]; exact ok.w w hm⟩, List.drop_eq_getElem_cons hi]
    rfl

theorem cutD_ok {x : DevT} {c : List Int × Int × Int} (h : OkDev x) : OkDev (cutD c x) := by
  unfold cutD
  split
  · exact h
  · have key : ∀ (l : List (Int × List Int)) (k : Nat) (s : List (List Int)), OkD l s → ∀ y, y ∈ cutS c l k s → y.length = 256 := by
      intro l
      induction l with
      | nil => intro k s ok; exact ok.s
      | cons w ws ih =>
        intro k s ok
        have hw := ok.w w (by simp)
        have ht := tornN_in c k
        exact ih (k + 1) _ ⟨putS_ok ok.s hw.1 hw.2.1 hw.2.2 (by omega), fun v hv => by rw [putS_len]; exact ok.w v (by simp [hv])⟩
    exact ⟨⟨key _ _ _ h.d, fun w hw => by cases hw⟩, by simp, by simp, h.c, h.n, by simp only [cutS_len]; exact h.s⟩

def barrierD (x : DevT) : Int × DevT :=
  if x.2.2.2.2.1 then (6, x)
  else if (changeD x).1 ≠ 0 then changeD x
  else (0, [], (changeD x).2.2.1, (changeD x).2.2.2.1, (changeD x).2.2.2.2.1, (changeD x).2.2.2.2.2.1, sureS (changeD x).2.1 (changeD x).2.2.2.2.2.2)

theorem changeD_d {x : DevT} (h : OkD x.1 x.2.2.2.2.2) (hl : x.1.length < 1000000) : (changeD x).1 = 0 → OkD (changeD x).2.1 (changeD x).2.2.2.2.2.2 ∧ (changeD x).2.1.length < 1000000 := fun h0 => by
  unfold changeD at h0 ⊢
  split at h0
  · rename_i h1; rw [if_pos h1]; exact ⟨h, hl⟩
  · rename_i h1
    rw [if_neg h1]
    split at h0
    · exact absurd h0 (by simp)
    · rename_i h2; rw [if_neg h2]; exact ⟨h, hl⟩

theorem barrier_is (l : List (Int × List Int)) (d2 : Int) (d3 : List Int × Int × Int) (d4 : Int) (off : Bool) (s : List (List Int)) (h : OkDev (l, d2, d3, d4, off, s)) :
    device_Device_Barrier l d2 d3 d4 off s = some (barrierD (l, d2, d3, d4, off, s)) := by
  have hl := h.l
  have h2 := h.left
  have h4 := h.n
  simp only at hl h2 h4
  unfold device_Device_Barrier device_Device_Off barrierD
  rw [win_all _ _ rfl]
  simp only [Option.bind_some, beq_self, cond_true]
  cases off with
  | true => rfl
  | false =>
    rw [change_is l d2 d3 d4 false s (by omega) h.c h2 h4 h.d]
    simp only [cond_false, Bool.false_eq_true, if_false, Option.bind_some, beq_self, cond_true]
    have hc := changeD_d (x := (l, d2, d3, d4, false, s)) h.d (by simp only; omega)
    generalize changeD (l, d2, d3, d4, false, s) = r at hc
    by_cases h0 : r.1 = 0
    · rw [neI_f h0, if_neg (by simp [h0])]
      obtain ⟨c1, c2⟩ := hc h0
      simp only [cond_false]
      rw [short_ok (by omega)]
      have := barrier_loop r.2.1 r.2.1 r.2.2.1 r.2.2.2.1 r.2.2.2.2.1 r.2.2.2.2.2.1 c2 r.2.1.length 0 r.2.2.2.2.2.2 (by omega) c1
      rw [show ((0 : Nat) : Int) = 0 from rfl] at this
      rw [this]
      simp only [Option.bind_some, beq_self, cond_true, List.drop_zero]
    · rw [neI_t h0, if_pos h0]; rfl

/-! ### writes -/
theorem subL_all {α : Type} (l : List α) : subL l 0 (l.length : Int) = l := by
  simp [subL]

theorem clip_is (l : List (Int × List Int)) (hl : l.length < 1000000) : slices_Clip l = some l := by
  unfold slices_Clip
  rw [short_ok (by omega), short_ok (by omega), sub_all, eqI_t rfl, subL_all]
  rfl

theorem app_ok {R : Type} {n m nb : Nat} (h : (n + m) * nb ≤ 140737488355328) (k : Unit → Option R) : appG n m nb k = k () := by
  unfold appG; rw [Nat.ble_eq.mpr h]; rfl

def writeD (x : DevT) (i : Int) (b : List Int) : Int × DevT :=
  if whyS x.2.2.2.2.1 x.2.2.2.2.2.length i ≠ 0 then (whyS x.2.2.2.2.1 x.2.2.2.2.2.length i, x)
  else if b.length ≠ 256 then (1, x)
  else changeD (x.1 ++ [(i, b)], x.2)

theorem rep_cpy (b : List Int) (h : b.length = 256) : cpyL (List.replicate 256 (0 : Int)) 0 256 b = b := by
  have := cpy_all (List.replicate 256 (0 : Int)) b
  rw [List.length_replicate] at this
  rw [this, List.drop_replicate, h, List.take_of_length_le (by omega)]
  simp

theorem why0 {off : Bool} {n : Nat} {i : Int} (h : whyS off n i = 0) : 0 ≤ i ∧ i < n := by
  unfold whyS at h
  split at h
  · cases h
  · split at h
    · assumption
    · cases h

theorem OkDev.add {x : DevT} (h : OkDev x) {i : Int} {b : List Int} (hi : 0 ≤ i ∧ i < x.2.2.2.2.2.length) (hb : b.length = 256) : OkD (x.1 ++ [(i, b)]) x.2.2.2.2.2 :=
  ⟨h.d.s, fun w hw => by
    rcases List.mem_append.1 hw with hw | hw
    · exact h.d.w w hw
    · simp only [List.mem_singleton] at hw; subst hw; exact ⟨hi.1, hi.2, hb⟩⟩

theorem write_is (i : Int) (b : List Int) (l : List (Int × List Int)) (d2 : Int) (d3 : List Int × Int × Int) (d4 : Int) (off : Bool) (s : List (List Int)) (h : OkDev (l, d2, d3, d4, off, s)) (hb : b.length < 1000000) :
    device_Device_Write i b l d2 d3 d4 off s = some (writeD (l, d2, d3, d4, off, s) i b) := by
  have hl := h.l
  have h2 := h.left
  have h4 := h.n
  simp only at hl h2 h4
  unfold device_Device_Write writeD
  rw [win_all _ _ rfl, may_is _ _ _ _ _ _ _ h.s]
  simp only [Option.bind_some, beq_self, cond_true]
  by_cases hw : whyS off s.length i = 0
  · rw [neI_f hw, if_neg (by simpa using hw), short_ok (by omega)]
    by_cases hbl : b.length = 256
    · rw [neI_f (by omega), if_neg (by simpa using hbl), List.length_replicate, ble_self, clip_is l (by omega)]
      simp only [cond_false, cond_true, Option.bind_some]
      rw [app_ok (by simp only [List.length_singleton]; omega), rep_cpy b hbl, change_is (l ++ [(i, b)]) d2 d3 d4 off s (by simp; omega) h.c h2 h4 (h.add (why0 hw) hbl)]
      rfl
    · rw [neI_t (by omega), if_pos hbl]; rfl
  · rw [neI_t hw, if_pos hw]; rfl

theorem write4_is (i : Int) (b : List Int) (l : List (Int × List Int)) (d2 : Int) (d3 : List Int × Int × Int) (d4 : Int) (off : Bool) (s : List (List Int)) (h : OkDev (l, d2, d3, d4, off, s)) (hb : b.length < 1000000) :
    device_Device_Write_4 i l d2 d3 d4 off b s = some ((fun r : Int × DevT => (r.1, r.2.1, r.2.2.1, r.2.2.2.1, r.2.2.2.2.1, r.2.2.2.2.2.1, b, r.2.2.2.2.2.2)) (writeD (l, d2, d3, d4, off, s) i b)) := by
  have hl := h.l
  have h2 := h.left
  have h4 := h.n
  simp only at hl h2 h4
  unfold device_Device_Write_4 writeD
  rw [win_all _ _ rfl, may_is _ _ _ _ _ _ _ h.s]
  simp only [Option.bind_some, beq_self, cond_true]
  by_cases hw : whyS off s.length i = 0
  · rw [neI_f hw, if_neg (by simpa using hw), short_ok (by omega)]
    by_cases hbl : b.length = 256
    · rw [neI_f (by omega), if_neg (by simpa using hbl), win_all _ _ rfl, List.length_replicate, ble_self, clip_is l (by omega)]
      simp only [cond_false, cond_true, Option.bind_some]
      rw [app_ok (by simp only [List.length_singleton]; omega), rep_cpy b hbl, change_is (l ++ [(i, b)]) d2 d3 d4 off s (by simp; omega) h.c h2 h4 (h.add (why0 hw) hbl)]
      rfl
    · rw [neI_t (by omega), if_pos hbl]; rfl
  · rw [neI_t hw, if_pos hw]; rfl

/-! ### reads -/
/-- as it was written last -/
def nowS : List (Int × List Int) → Int → List Int → List Int
  | [], _, x => x
  | w :: ws, i, x => nowS ws i (if w.1 = i then w.2 else x)

theorem read_loop (i : Int) (loose d : List (Int × List Int)) (d2 : Int) (d3 : List Int × Int × Int) (d4 : Int) (d5 : Bool) (s : List (List Int)) (hl : loose.length < 1000000) :
    ∀ (k j : Nat) (x : List Int), j + k = loose.length →
      loopC device_Device_Read_2_l1_1_1_0_1_0g (i, loose, (loose.length : Nat), (j : Int), d, d2, d3, d4, d5, x, s) = some (d, d2, d3, d4, d5, nowS (loose.drop j) i x, s)
  | 0, j, x, h => by
    rw [loopC_eq, show device_Device_Read_2_l1_1_1_0_1_0g (i, loose, (loose.length : Nat), (j : Int), d, d2, d3, d4, d5, x, s) = device_Device_Read_2_l1_1_1_0_1_0r i loose (loose.length : Nat) (j : Int) d d2 d3 d4 d5 x s from rfl]
    unfold device_Device_Read_2_l1_1_1_0_1_0r
    rw [ltI_f (by simp; omega), List.drop_eq_nil_of_le (by omega)]
    simp only [beq_self, cond_true, cond_false, Option.bind_some, Sum.elim_inr, nowS]
  | k + 1, j, x, h => by
    have hj : j < loose.length := by omega
    rw [loopC_eq, show device_Device_Read_2_l1_1_1_0_1_0g (i, loose, (loose.length : Nat), (j : Int), d, d2, d3, d4, d5, x, s) = device_Device_Read_2_l1_1_1_0_1_0r i loose (loose.length : Nat) (j : Int) d d2 d3 d4 d5 x s from rfl]
    unfold device_Device_Read_2_l1_1_1_0_1_0r
    rw [ltI_t (by omega), idx_at, List.getElem?_eq_getElem hj]
    simp only [Option.bind_some, cond_true, beq_self]
    rw [W64_in (by omega), show ((j : Int) + 1) = ((j + 1 : Nat) : Int) by simp, List.drop_eq_getElem_cons hj]
    by_cases h1 : loose[j].1 = i
    · rw [eqI_t h1]
      simp only [cond_true, Option.bind_some, Sum.elim_inl]
      rw [read_loop i loose d d2 d3 d4 d5 s hl k (j + 1) _ (by omega)]
      simp only [nowS, h1, if_true]
    · rw [eqI_f h1]
      simp only [cond_false, Option.bind_some, Sum.elim_inl]
      rw [read_loop i loose d d2 d3 d4 d5 s hl k (j + 1) _ (by omega)]
      simp only [nowS, if_neg h1]

theorem nowS_len : ∀ (l : List (Int × List Int)) (i : Int) (x : List Int), (∀ w, w ∈ l → w.2.length = 256) → x.length = 256 → (nowS l i x).length = 256
  | [], _, _, _, h => h
  | w :: ws, i, x, hw, h => by
    simp only [nowS]
    refine nowS_len ws i _ (fun v hv => hw v (by simp [hv])) ?_
    split
    · exact hw w (by simp)
    · exact h

def readD (x : DevT) (i : Int) : Int × List Int :=
  if whyS x.2.2.2.2.1 x.2.2.2.2.2.length i ≠ 0 then (whyS x.2.2.2.2.1 x.2.2.2.2.2.length i, []) else (0, nowS x.1 i ((x.2.2.2.2.2[i.toNat]?).getD []))

theorem read_is (i : Int) (l : List (Int × List Int)) (d2 : Int) (d3 : List Int × Int × Int) (d4 : Int) (off : Bool) (s : List (List Int)) (h : OkDev (l, d2, d3, d4, off, s)) :
    device_Device_Read_2 i l d2 d3 d4 off s = some ((readD (l, d2, d3, d4, off, s) i).1, l, d2, d3, d4, off, (readD (l, d2, d3, d4, off, s) i).2, s) := by
  have hl := h.l
  simp only at hl
  unfold device_Device_Read_2 readD
  rw [win_all _ _ rfl, may_is _ _ _ _ _ _ _ h.s]
  simp only [Option.bind_some, beq_self, cond_true]
  by_cases hw : whyS off s.length i = 0
  · obtain ⟨h0, h1⟩ := why0 hw
    have hlt : i.toNat < s.length := by omega
    have hx := h.d.s _ (List.getElem_mem hlt)
    rw [neI_f hw, if_neg (by simpa using hw), inI_t (by omega), List.getElem?_eq_getElem hlt]
    simp only [cond_false, cond_true, Option.bind_some, Option.getD_some]
    rw [short_ok (by omega)]
    have := read_loop i l l d2 d3 d4 off s (by omega) l.length 0 s[i.toNat] (by omega)
    rw [show ((0 : Nat) : Int) = 0 from rfl] at this
    rw [this]
    simp only [Option.bind_some, List.drop_zero]
    rw [nowS_len l i _ (fun w hw => (h.d.w w hw).2.2) hx, beq_self]
    first | rfl | (simp only [beq_self, cond_true])
  · rw [neI_t hw, if_pos hw]; rfl

/-! ### new ones -/
def newD (n : Nat) : DevT := ([], -1, ([], 0, 0), 0, false, List.replicate n (List.replicate 256 0))

theorem new_is (n : Int) (h : 1 ≤ n ∧ n ≤ 4096) : device_New n = some (.inr (0, newD n.toNat)) := by
  unfold device_New newD makeG
  rw [ltI_f (by omega), ltI_f (by omega), leI_t (by omega), leI_t (by omega), List.length_replicate, beq_self]
  rfl

theorem new_not (n : Int) (h : ¬ (1 ≤ n ∧ n ≤ 4096)) : device_New n = some (.inl 1) := by
  unfold device_New
  by_cases h1 : n < 1
  · rw [ltI_t h1]; rfl
  · rw [ltI_f h1, ltI_t (by omega)]; rfl

theorem newD_ok (n : Nat) (hn : n < 1000000) : OkDev (newD n) where
  d := ⟨fun x hx => by
    have := List.eq_of_mem_replicate hx
    rw [this, List.length_replicate], fun w hw => by cases hw⟩
  l := Nat.zero_lt_succ _
  left := show -1 ≤ (-1 : Int) ∧ (-1 : Int) ≤ 9223372036854775807 from ⟨by decide, by decide⟩
  c := Nat.zero_lt_succ _
  n := show 0 ≤ (0 : Int) ∧ (0 : Int) < 1000000000 from ⟨by decide, by decide⟩
  s := by show (List.replicate n _).length < _; rw [List.length_replicate]; exact hn

end Go.Proofs.Ytamfpgmpofncoaa

/- Devices: the first law. -/
set_option maxRecDepth 100000
set_option linter.unusedSimpArgs false
set_option linter.unusedVariables false
namespace Go.Proofs.Ytamfpgmpofncoaa
open Go.Tm Go.Ab

theorem fullS_len (c : Int) (t : List Int) : (fullS c t).length = 256 := by unfold fullS; rw [List.length_append, List.length_take, List.length_replicate]; omega

theorem OkDev.loose_nil {x : DevT} (h : OkDev x) (l2 : Int) (n : Int) (hn : 0 ≤ n ∧ n < 1000000000) (h2 : -1 ≤ l2 ∧ l2 ≤ 9223372036854775807) (off : Bool) (s : List (List Int)) (hs : ∀ y, y ∈ s → y.length = 256) (hl : s.length < 1000000) : OkDev ([], l2, x.2.2.1, n, off, s) :=
  ⟨⟨hs, fun w hw => by cases hw⟩, Nat.zero_lt_succ _, h2, h.c, hn, hl⟩

theorem off_is (x : DevT) (w : List (List Int)) : device_Device_Off (w, x.1, x.2.1, x.2.2.1, x.2.2.2.1, x.2.2.2.2.1) = some x.2.2.2.2.1 := rfl

def sec0 : List Int := List.replicate 256 0

theorem lives_is : law03_lives = some true := by
  have o0 : OkDev ([], -1, ([], 0, 0), 0, false, [sec0, sec0]) := newD_ok 2 (by omega)
  have o1 : OkDev ([(1, fullS 120 [])], -1, ([], 0, 0), 1, false, [sec0, sec0]) :=
    ⟨⟨o0.d.s, fun w hw => by simp only [List.mem_singleton] at hw; subst hw; exact ⟨by decide, by decide, fullS_len _ _⟩⟩, Nat.lt_of_sub_eq_succ rfl, ⟨by decide, by decide⟩, Nat.zero_lt_succ _, ⟨by decide, by decide⟩, Nat.lt_of_sub_eq_succ rfl⟩
  have hs2 : ∀ y, y ∈ [sec0, fullS 120 []] → y.length = 256 := fun y hy => by
    simp only [List.mem_cons, List.not_mem_nil, or_false] at hy
    rcases hy with rfl | rfl
    · exact List.length_replicate ..
    · exact fullS_len _ _
  have o2 : OkDev ([], -1, ([], 0, 0), 2, false, [sec0, fullS 120 []]) := ⟨⟨hs2, fun w hw => by cases hw⟩, Nat.zero_lt_succ _, ⟨by decide, by decide⟩, Nat.zero_lt_succ _, ⟨by decide, by decide⟩, Nat.lt_of_sub_eq_succ rfl⟩
  have o3 : OkDev ([(1, fullS 121 [])], -1, ([], 0, 0), 3, false, [sec0, fullS 120 []]) :=
    ⟨⟨hs2, fun w hw => by simp only [List.mem_singleton] at hw; subst hw; exact ⟨by decide, by decide, fullS_len _ _⟩⟩, Nat.lt_of_sub_eq_succ rfl, ⟨by decide, by decide⟩, Nat.zero_lt_succ _, ⟨by decide, by decide⟩, Nat.lt_of_sub_eq_succ rfl⟩
  have w1 : device_Device_Write 1 (fullS 120 []) [] (-1) ([], 0, 0) 0 false [sec0, sec0] = some (0, [(1, fullS 120 [])], -1, ([], 0, 0), 1, false, [sec0, sec0]) := by
    rw [write_is _ _ _ _ _ _ _ _ o0 (by rw [fullS_len]; omega)]; kernel_rfl
  have b1 : device_Device_Barrier [(1, fullS 120 [])] (-1) ([], 0, 0) 1 false [sec0, sec0] = some (0, [], -1, ([], 0, 0), 2, false, [sec0, fullS 120 []]) := by
    rw [barrier_is _ _ _ _ _ _ o1]; kernel_rfl
  have w2 : device_Device_Write 1 (fullS 121 []) [] (-1) ([], 0, 0) 2 false [sec0, fullS 120 []] = some (0, [(1, fullS 121 [])], -1, ([], 0, 0), 3, false, [sec0, fullS 120 []]) := by
    rw [write_is _ _ _ _ _ _ _ _ o2 (by rw [fullS_len]; omega)]; kernel_rfl
  have c1 : device_Device_Cut ([], 0, 2) [(1, fullS 121 [])] (-1) ([], 0, 0) 3 false [sec0, fullS 120 []] = some ([], -1, ([], 0, 0), 3, true, [sec0, fullS 120 [121, 121]]) := by
    rw [cut_is ([], 0, 2) [(1, fullS 121 [])] (-1) ([], 0, 0) 3 false [sec0, fullS 120 []] (by decide) (by decide) o3.d]; kernel_rfl
  have hs4 : ∀ y, y ∈ [sec0, fullS 120 [121, 121]] → y.length = 256 := fun y hy => by
    simp only [List.mem_cons, List.not_mem_nil, or_false] at hy
    rcases hy with rfl | rfl
    · exact List.length_replicate ..
    · exact fullS_len _ _
  have o4 : OkDev ([], -1, ([], 0, 0), 3, false, [sec0, fullS 120 [121, 121]]) := ⟨⟨hs4, fun w hw => by cases hw⟩, Nat.zero_lt_succ _, ⟨by decide, by decide⟩, Nat.zero_lt_succ _, ⟨by decide, by decide⟩, Nat.lt_of_sub_eq_succ rfl⟩
  have r1 : device_Device_Read_2 1 [] (-1) ([], 0, 0) 3 false [sec0, fullS 120 [121, 121]] = some (0, [], -1, ([], 0, 0), 3, false, fullS 120 [121, 121], [sec0, fullS 120 [121, 121]]) := by
    rw [read_is _ _ _ _ _ _ _ o4]; kernel_rfl
  unfold law03_lives
  rw [new_is 2 (by omega), show newD (2 : Int).toNat = ([], -1, ([], 0, 0), 0, false, [sec0, sec0]) from rfl]
  simp only [Option.bind_some, Sum.elim_inr, beq_self, cond_true]
  rw [full_is]
  simp only [Option.bind_some, Sum.elim_inr, beq_self, cond_true, cond_false]
  rw [w1]
  simp only [Option.bind_some, beq_self, cond_true, cond_false]
  rw [b1]
  simp only [Option.bind_some, beq_self, cond_true, cond_false]
  rw [full_is]
  simp only [Option.bind_some]
  rw [w2]
  simp only [Option.bind_some, beq_self, cond_true, cond_false]
  rw [c1]
  simp only [Option.bind_some]
  rw [win_all _ _ rfl]
  rw [show device_Device_Off ([sec0, fullS 120 [121, 121]], [], -1, ([], 0, 0), 3, true) = some true from rfl]
  simp only [Option.bind_some, Bool.not_true, cond_false, beq_self, cond_true]
  rw [on_is]
  simp only [Option.bind_some, Bool.not_true, cond_false, beq_self, cond_true]
  rw [r1]
  simp only [Option.bind_some]
  rw [win_all _ _ rfl, full_is]
  simp only [neI_f rfl, eqI_t rfl, cond_false, cond_true, Option.bind_some]
  rw [show eqS (fullS 120 [121, 121]) (fullS 120 [121, 121]) = true from decide_eq_true rfl]

end Go.Proofs.Ytamfpgmpofncoaa

/- Devices where no power is cut: sectors are as they were written last. -/
set_option maxRecDepth 100000
set_option linter.unusedSimpArgs false
set_option linter.unusedVariables false
namespace Go.Proofs.Ytamfpgmpofncoaa
open Go.Tm Go.Ab

def onD (x : DevT) : DevT := (x.1, x.2.1, x.2.2.1, x.2.2.2.1, false, x.2.2.2.2.2)
theorem on_x (x : DevT) : device_Device_On x.1 x.2.1 x.2.2.1 x.2.2.2.1 x.2.2.2.2.1 x.2.2.2.2.2 = some (x.2.2.2.2.1, onD x) := on_is _ _ _ _ _ _
theorem off_x (x : DevT) : device_Device_Off (x.2.2.2.2.2, x.1, x.2.1, x.2.2.1, x.2.2.2.1, x.2.2.2.2.1) = some x.2.2.2.2.1 := rfl
theorem write_y (i : Int) (b : List Int) (x : DevT) (h : OkDev x) (hb : b.length < 1000000) : device_Device_Write i b x.1 x.2.1 x.2.2.1 x.2.2.2.1 x.2.2.2.2.1 x.2.2.2.2.2 = some (writeD x i b) := write_is i b _ _ _ _ _ _ h hb
theorem write4_y (i : Int) (b : List Int) (x : DevT) (h : OkDev x) (hb : b.length < 1000000) : device_Device_Write_4 i x.1 x.2.1 x.2.2.1 x.2.2.2.1 x.2.2.2.2.1 b x.2.2.2.2.2 = some ((fun r : Int × DevT => (r.1, r.2.1, r.2.2.1, r.2.2.2.1, r.2.2.2.2.1, r.2.2.2.2.2.1, b, r.2.2.2.2.2.2)) (writeD x i b)) := write4_is i b _ _ _ _ _ _ h hb
theorem barrier_x (x : DevT) (h : OkDev x) : device_Device_Barrier x.1 x.2.1 x.2.2.1 x.2.2.2.1 x.2.2.2.2.1 x.2.2.2.2.2 = some (barrierD x) := barrier_is _ _ _ _ _ _ h
theorem read_y (i : Int) (x : DevT) (h : OkDev x) : device_Device_Read_2 i x.1 x.2.1 x.2.2.1 x.2.2.2.1 x.2.2.2.2.1 x.2.2.2.2.2 = some ((readD x i).1, x.1, x.2.1, x.2.2.1, x.2.2.2.1, x.2.2.2.2.1, (readD x i).2, x.2.2.2.2.2) := read_is i _ _ _ _ _ _ h
theorem cut_x (c : List Int × Int × Int) (x : DevT) (h : OkDev x) (hc : c.1.length < 1000000) : device_Device_Cut c x.1 x.2.1 x.2.2.1 x.2.2.2.1 x.2.2.2.2.1 x.2.2.2.2.2 = some (cutD c x) := cut_is c _ _ _ _ _ _ (by have := h.l; omega) hc h.d

/-- no cut comes; so many sectors, at most so many changes, and what was written last -/
structure Fine (n m : Nat) (x : DevT) (last : List (List Int)) : Prop where
  d : OkD x.1 x.2.2.2.2.2
  l : (x.1.length : Int) ≤ x.2.2.2.1
  left : x.2.1 = -1
  c : x.2.2.1.1.length < 1000000
  ch : 0 ≤ x.2.2.2.1 ∧ x.2.2.2.1 ≤ m
  off : x.2.2.2.2.1 = false
  s : x.2.2.2.2.2.length = n
  len : last.length = n
  now : ∀ k, k < n → last[k]? = some (nowS x.1 (k : Int) ((x.2.2.2.2.2[k]?).getD []))

theorem Fine.ok {n m : Nat} {x : DevT} {last : List (List Int)} (h : Fine n m x last) (hn : n < 1000000) (hm : m < 900000) : OkDev x :=
  ⟨h.d, by have := h.l; have := h.ch; omega, by rw [h.left]; decide, h.c, by have := h.ch; omega, by rw [h.s]; exact hn⟩

theorem nowS_app (i : Int) (b : List Int) (k : Int) : ∀ (l : List (Int × List Int)) (x : List Int), nowS (l ++ [(i, b)]) k x = if i = k then b else nowS l k x
  | [], x => by simp [nowS]
  | w :: ws, x => by
    simp only [List.cons_append, nowS]
    exact nowS_app i b k ws _

theorem sureS_at : ∀ (l : List (Int × List Int)) (s : List (List Int)) (k : Nat), (∀ w, w ∈ l → 0 ≤ w.1) → k < s.length → (sureS l s)[k]? = some (nowS l (k : Int) ((s[k]?).getD []))
  | [], s, k, _, hk => by simp [sureS, nowS, hk]
  | w :: ws, s, k, hw, hk => by
    simp only [sureS, nowS]
    have h0 := hw w (by simp)
    rw [sureS_at ws _ k (fun v hv => hw v (by simp [hv])) (by rw [List.length_set]; exact hk)]
    by_cases h : w.1 = (k : Int)
    · rw [if_pos h, h, Int.toNat_natCast, List.getElem?_set_self hk]; rfl
    · rw [if_neg h, List.getElem?_set_ne (by omega)]

theorem change_none {x : DevT} (h : x.2.1 = -1) : changeD x = (0, x.1, x.2.1, x.2.2.1, x.2.2.2.1 + 1, x.2.2.2.2.1, x.2.2.2.2.2) := by
  unfold changeD; rw [h, if_pos (by omega)]

theorem sureS_okD : ∀ (l : List (Int × List Int)) (s : List (List Int)), OkD l s → ∀ y, y ∈ sureS l s → y.length = 256
  | [], _, ok => ok.s
  | w :: ws, s, ok => sureS_okD ws _ ⟨set_ok ok.s (ok.w w (by simp)).2.2, fun v hv => by rw [List.length_set]; exact ok.w v (by simp [hv])⟩

theorem Fine.write {n m : Nat} {x : DevT} {last : List (List Int)} (h : Fine n m x last) {i : Int} (hi : 0 ≤ i ∧ i < n) {b : List Int} (hb : b.length = 256) :
    ∃ y, writeD x i b = (0, y) ∧ Fine n (m + 1) y (last.set i.toNat b) ∧ y.1 = x.1 ++ [(i, b)] ∧ y.2.2.2.1 = x.2.2.2.1 + 1 ∧ y.2.2.2.2.2 = x.2.2.2.2.2 := by
  have hw : whyS x.2.2.2.2.1 x.2.2.2.2.2.length i = 0 := by unfold whyS; rw [h.off, h.s, if_neg (by simp), if_pos hi]
  unfold writeD
  rw [hw, if_neg (by simp), if_neg (by simpa using hb), change_none (by exact h.left)]
  refine ⟨_, rfl, ?_, rfl, rfl, rfl⟩
  have hn := h.ch
  have hl := h.l
  refine ⟨⟨h.d.s, fun w hm => ?_⟩, by simp; omega, h.left, h.c, by simp; omega, h.off, h.s, by rw [List.length_set]; exact h.len, fun k hk => ?_⟩
  · rcases List.mem_append.1 hm with hm | hm
    · exact h.d.w w hm
    · simp only [List.mem_singleton] at hm; subst hm; exact ⟨hi.1, by simp only; rw [h.s]; exact hi.2, hb⟩
  · simp only
    rw [nowS_app]
    by_cases e : i = (k : Int)
    · rw [if_pos e, e, Int.toNat_natCast, List.getElem?_set_self (by rw [h.len]; exact hk)]
    · rw [if_neg e, List.getElem?_set_ne (by omega), h.now k hk]

theorem Fine.barrier {n m : Nat} {x : DevT} {last : List (List Int)} (h : Fine n m x last) :
    ∃ y, barrierD x = (0, y) ∧ Fine n (m + 1) y last ∧ y.1 = [] ∧ y.2.2.2.1 = x.2.2.2.1 + 1 ∧ y.2.2.2.2.2 = last := by
  have hs : sureS x.1 x.2.2.2.2.2 = last := by
    refine List.ext_getElem? fun k => ?_
    by_cases hk : k < n
    · rw [h.now k hk, sureS_at _ _ k (fun w hw => (h.d.w w hw).1) (by rw [h.s]; exact hk)]
    · rw [List.getElem?_eq_none (by rw [sureS_len, h.s]; omega), List.getElem?_eq_none (by rw [h.len]; omega)]
  unfold barrierD
  rw [h.off, if_neg (by simp), change_none h.left]
  simp only [ne_eq, not_true_eq_false, if_false]
  refine ⟨_, rfl, ?_, rfl, rfl, by simp only [hs]⟩
  have hn := h.ch
  refine ⟨⟨fun y hy => sureS_okD _ _ h.d y hy, fun w hw => by cases hw⟩, by simp; omega, h.left, h.c, by simp; omega, h.off, by simp only [hs]; exact h.len, h.len, fun k hk => ?_⟩
  simp only [nowS, hs]
  rw [List.getElem?_eq_getElem (by rw [h.len]; exact hk)]; rfl

theorem Fine.read {n m : Nat} {x : DevT} {last : List (List Int)} (h : Fine n m x last) {k : Nat} (hk : k < n) : ∃ b, last[k]? = some b ∧ readD x (k : Int) = (0, b) := by
  refine ⟨_, h.now k hk, ?_⟩
  unfold readD
  rw [show whyS x.2.2.2.2.1 x.2.2.2.2.2.length (k : Int) = 0 by unfold whyS; rw [h.off, h.s, if_neg (by simp), if_pos (by omega)]]
  simp

theorem Fine.new (n : Nat) : Fine n 0 (newD n) (List.replicate n sec0) where
  d := ⟨fun x hx => by
    have := List.eq_of_mem_replicate hx
    rw [this, List.length_replicate], fun w hw => by cases hw⟩
  l := Int.le_refl 0
  left := rfl
  c := Nat.zero_lt_succ _
  ch := ⟨Int.le_refl 0, Int.le_refl 0⟩
  off := rfl
  s := List.length_replicate ..
  len := List.length_replicate ..
  now := fun k hk => by
    show (List.replicate n sec0)[k]? = some (nowS [] _ (((List.replicate n (List.replicate 256 (0 : Int)))[k]?).getD []))
    rw [List.getElem?_replicate, List.getElem?_replicate, if_pos hk, if_pos hk]; rfl

theorem Fine.mono {n m m' : Nat} {x : DevT} {last : List (List Int)} (h : Fine n m x last) (hm : m ≤ m') : Fine n m' x last :=
  ⟨h.d, h.l, h.left, h.c, by have := h.ch; omega, h.off, h.s, h.len, h.now⟩

theorem full2_loop (c : Int) (t : List Int) (m : Nat) (hm : m < 1000000) : loopC law03_full_2_l1_1_0_1_0g (c, t, (m : Int), 0, List.replicate m 0) = some (t, List.replicate m c) := by
  have := loop_run law03_full_2_l1_1_0_1_0g (fun i => (c, t, (m : Int), (i : Int), List.replicate i c ++ List.replicate (m - i) (0 : Int))) (fun _ => (t, List.replicate m c)) m ?_ ?_
  · simpa using this
  · unfold law03_full_2_l1_1_0_1_0g law03_full_2_l1_1_0_1_0r
    rw [ltI_f (by simp), beq_self]
    simp
  · intro i hi
    refine .inl ⟨?_, rfl⟩
    unfold law03_full_2_l1_1_0_1_0g law03_full_2_l1_1_0_1_0r
    have hl : (List.replicate i c ++ List.replicate (m - i) (0 : Int)).length = m := by simp; omega
    have hset : (List.replicate i c ++ List.replicate (m - i) (0 : Int)).set i c = List.replicate (i + 1) c ++ List.replicate (m - (i + 1)) 0 := by
      rw [List.set_append_right _ _ (by simp), List.length_replicate, Nat.sub_self, show m - i = (m - (i + 1)) + 1 by omega, List.replicate_succ, List.set_cons_zero, List.replicate_succ' (n := i), List.append_assoc]
      rfl
    have hget : (List.replicate i c ++ List.replicate (m - i) (0 : Int))[i]? = some 0 := by
      rw [List.getElem?_append_right (by simp), List.length_replicate, Nat.sub_self, show m - i = (m - (i + 1)) + 1 by omega, List.replicate_succ]; rfl
    have hset2 : (List.replicate (i + 1) c ++ List.replicate (m - (i + 1)) (0 : Int)).length = m := by simp; omega
    simp only [Int.toNat_natCast, hl, hset, hset2, hget, Option.bind_some]
    rw [ltI_t (by omega), inI_t (by omega), W64_in (by omega), beq_self]
    rfl

theorem full2_is (c : Int) (t : List Int) : law03_full_2 c t = some (fullS c t) := by
  unfold law03_full_2
  have h0 := full2_loop c t 256 (by omega)
  rw [show ((256 : Nat) : Int) = 256 from rfl] at h0
  have e : cpyL (List.replicate 256 c) 0 256 t = fullS c t := by
    have := cpy_all (List.replicate 256 c) t
    rw [List.length_replicate] at this
    rw [this, fullS, List.drop_replicate]
  have hl : 256 = (fullS c t).length := by unfold fullS; rw [List.length_append, List.length_take, List.length_replicate]; omega
  rw [h0]
  simp only [Option.bind_some, List.length_replicate]
  rw [e, ← hl, beq_self, ble_self]
  rfl

/-! ### cuts that keep all, or nothing -/
theorem cutS_all (c : List Int × Int × Int) : ∀ (l : List (Int × List Int)) (k : Nat) (s : List (List Int)), OkD l s → (∀ j, k ≤ j → j < k + l.length → (j : Int) ∈ c.1) → cutS c l k s = sureS l s
  | [], _, _, _, _ => rfl
  | w :: ws, k, s, ok, h => by
    have hw := ok.w w (by simp)
    have ht : tornN c k = 256 := by unfold tornN; rw [if_pos (h k (Nat.le_refl _) (by simp))]
    have hp : putS s w (tornN c k).toNat = s.set w.1.toNat w.2 := by
      have hlt : w.1.toNat < s.length := by omega
      have := ok.s _ (List.getElem_mem hlt)
      unfold putS
      rw [ht, show (256 : Int).toNat = 256 from rfl, List.getElem?_eq_getElem hlt, Option.getD_some, List.take_of_length_le (by omega), List.drop_eq_nil_of_le (by omega), List.append_nil]
    simp only [cutS, sureS, hp]
    exact cutS_all c ws (k + 1) _ ⟨set_ok ok.s hw.2.2, fun v hv => by rw [List.length_set]; exact ok.w v (by simp [hv])⟩ (fun j h1 h2 => h j (by omega) (by simp; omega))

theorem cutS_none (c : List Int × Int × Int) (hc : c.1 = []) (ht : c.2.1 = -1) : ∀ (l : List (Int × List Int)) (k : Nat) (s : List (List Int)), OkD l s → cutS c l k s = s
  | [], _, _, _ => rfl
  | w :: ws, k, s, ok => by
    have hw := ok.w w (by simp)
    have ht' : tornN c k = 0 := by unfold tornN; rw [hc, ht, if_neg (by simp), if_neg (by omega)]
    have hp : putS s w (tornN c k).toNat = s := by
      have hlt : w.1.toNat < s.length := by omega
      unfold putS
      rw [ht', show (0 : Int).toNat = 0 from rfl, List.getElem?_eq_getElem hlt, Option.getD_some, List.take_zero, List.nil_append, List.drop_zero, List.set_getElem_self]
    simp only [cutS, hp]
    exact cutS_none c hc ht ws (k + 1) s ⟨ok.s, fun v hv => ok.w v (by simp [hv])⟩

theorem Fine.sure_now {n m : Nat} {x : DevT} {last : List (List Int)} (h : Fine n m x last) : sureS x.1 x.2.2.2.2.2 = last := by
  refine List.ext_getElem? fun k => ?_
  by_cases hk : k < n
  · rw [h.now k hk, sureS_at _ _ k (fun w hw => (h.d.w w hw).1) (by rw [h.s]; exact hk)]
  · rw [List.getElem?_eq_none (by rw [sureS_len, h.s]; omega), List.getElem?_eq_none (by rw [h.len]; omega)]

/-! ### what is tried -/
abbrev OpT := Int × Int × Int × List Int × Bool × (List Int × Int × Int)
def fitO (o : OpT) : Prop := o.2.2.2.1.length ≤ 300 ∧ o.2.2.2.2.2.1.length ≤ 70
instance (o : OpT) : Decidable (fitO o) := inferInstanceAs (Decidable (_ ∧ _))

theorem place_in (a n : Int) (hn : 1 ≤ n ∧ n ≤ 10) : 0 ≤ W64 ((WU64 a).tmod n) ∧ W64 ((WU64 a).tmod n) < n := by
  have h := wrap_range .u64 a
  simp only [IntKind.min, IntKind.max, IntKind.bits, IntKind.signed] at h
  have h0 : 0 ≤ WU64 a := by simpa using h.1
  rw [Int.tmod_eq_emod_of_nonneg h0]
  have h1 := Int.emod_nonneg (WU64 a) (b := n) (by omega)
  have h2 := Int.emod_lt_of_pos (WU64 a) (b := n) (by omega)
  rw [W64_in (by omega)]
  exact ⟨h1, h2⟩

/-- bytes that are written -/
def bytesO (o : OpT) : List Int := fullS o.2.2.1 (subL o.2.2.2.1 0 (minI (List.length o.2.2.2.1 : Nat) 256))
theorem bytesO_len (o : OpT) : (bytesO o).length = 256 := fullS_len _ _
theorem minI_sub (l : List Int) : subOk 0 (minI (List.length l : Nat) 256) (List.length l) = true := by
  refine sub_ok ?_
  unfold minI; split <;> omega

theorem fits_loop (l : List OpT) (hl : l.length ≤ 60) (hs : ∀ o, o ∈ l → o.2.2.2.1.length ≤ 9223372036854775807 ∧ o.2.2.2.2.2.1.length ≤ 9223372036854775807) : ∀ (k i : Nat), i + k = l.length → (∀ o, o ∈ l.drop i → fitO o) ∧ loopC law03_fits_l1_1_0_1_0g (l, (l.length : Nat), (i : Int)) = some (.inl ()) ∨ loopC law03_fits_l1_1_0_1_0g (l, (l.length : Nat), (i : Int)) = some (.inr false)
  | 0, i, h => by
    refine .inl ⟨fun o ho => ?_, ?_⟩
    · rw [List.drop_eq_nil_of_le (by omega)] at ho; cases ho
    · rw [loopC_eq, show law03_fits_l1_1_0_1_0g (l, (l.length : Nat), (i : Int)) = law03_fits_l1_1_0_1_0r l (l.length : Nat) (i : Int) from rfl]
      unfold law03_fits_l1_1_0_1_0r
      rw [ltI_f (by omega)]; rfl
  | k + 1, i, h => by
    have hi : i < l.length := by omega
    have hb := hs _ (List.getElem_mem hi)
    have e : law03_fits_l1_1_0_1_0g (l, (l.length : Nat), (i : Int)) = if fitO l[i] then some (.inl (l, ((l.length : Nat) : Int), ((i + 1 : Nat) : Int))) else some (.inr (.inr false)) := by
      show law03_fits_l1_1_0_1_0r l (l.length : Nat) (i : Int) = _
      unfold law03_fits_l1_1_0_1_0r
      rw [ltI_t (by omega), idx_at, List.getElem?_eq_getElem hi]
      simp only [Option.bind_some, cond_true]
      rw [short_ok (by omega), short_ok (by omega)]
      by_cases h1 : l[i].2.2.2.1.length ≤ 300
      · rw [ltI_f (by omega)]
        by_cases h2 : l[i].2.2.2.2.2.1.length ≤ 70
        · rw [ltI_f (by omega), W64_in (by omega), if_pos (show fitO l[i] from ⟨h1, h2⟩)]; rfl
        · rw [ltI_t (by omega), if_neg (show ¬ fitO l[i] from fun h => h2 h.2)]; rfl
      · rw [ltI_t (by omega), if_neg (show ¬ fitO l[i] from fun h => h1 h.1)]; rfl
    rw [loopC_eq, e]
    by_cases hf : fitO l[i]
    · rw [if_pos hf]
      rcases fits_loop l hl hs k (i + 1) (by omega) with ⟨g1, g2⟩ | g
      · refine .inl ⟨fun o ho => ?_, g2⟩
        rw [List.drop_eq_getElem_cons hi] at ho
        rcases List.mem_cons.1 ho with rfl | ho
        · exact hf
        · exact g1 o ho
      · exact .inr g
    · rw [if_neg hf]; exact .inr rfl

theorem fits_is (n : Int) (l : List OpT) (hl : l.length ≤ 9223372036854775807) (hs : ∀ o, o ∈ l → o.2.2.2.1.length ≤ 9223372036854775807 ∧ o.2.2.2.2.2.1.length ≤ 9223372036854775807) :
    (law03_fits n l = some true ∧ 1 ≤ n ∧ n ≤ 10 ∧ l.length ≤ 60 ∧ ∀ o, o ∈ l → fitO o) ∨ law03_fits n l = some false := by
  unfold law03_fits
  by_cases h1 : n < 1
  · rw [ltI_t h1]; exact .inr rfl
  rw [ltI_f h1]
  by_cases h2 : 10 < n
  · rw [ltI_t h2]; exact .inr rfl
  rw [ltI_f h2, short_ok hl]
  by_cases h3 : 60 < l.length
  · rw [ltI_t (by omega)]; exact .inr rfl
  rw [ltI_f (by omega), short_ok hl]
  simp only [cond_false]
  rcases fits_loop l (by omega) hs l.length 0 (by omega) with ⟨g1, g2⟩ | g
  · rw [show ((0 : Nat) : Int) = 0 from rfl] at g2
    rw [g2]
    exact .inl ⟨rfl, by omega, by omega, by omega, by simpa using g1⟩
  · rw [show ((0 : Nat) : Int) = 0 from rfl] at g
    rw [g]; exact .inr rfl

end Go.Proofs.Ytamfpgmpofncoaa
