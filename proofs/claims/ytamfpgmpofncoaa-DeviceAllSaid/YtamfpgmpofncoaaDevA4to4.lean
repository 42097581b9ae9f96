import Derived.Test.YtamfpgmpofncoaaDevAto
/- Typed functions of Go functions, printed by tm2.py; each is what the typed machine comes to. -/
set_option maxRecDepth 100000
set_option linter.unusedVariables false
noncomputable section
namespace Go.Proofs.Ytamfpgmpofncoaa
open Go.Tm Go.Ab

/- (*device.Device).Cut -/
def device_Device_Cut_3_V : Env := ⟨[(entQ device_Device_Off_S device_Device_Off_fn), (entQ slices_Contains_S slices_Contains_fn)], [], []⟩
theorem device_Device_Cut_3_env : EnvsOK Try.prog device_Device_Cut_3_V := ⟨env_cons (entQ_ok device_Device_Off_ok) (env_cons (entQ_ok slices_Contains_ok) (env_nil _)), fenv_nil _, denv_nil _⟩
def device_Device_Cut_3_j1_1_0_1_0_0_1_1_0_0_1_1K0 : Shp := ⟨53, 2, [(0, .pt 0 (.one (.st (.cons .leaf (.cons .leaf (.cons .leaf (.cons (.st (.cons .leaf (.cons .leaf (.one .leaf)))) (.cons .leaf (.one .leaf)))))))) []), (3, .pt 2 (.one (.st (.cons .leaf (.cons .leaf (.one .leaf))))) []), (5, .pt 3 (.one (.st (.cons .leaf (.one (.arr 256 .leaf))))) []), (6, .d (.int .i64)), (12, .d c1), (13, .d (.int .i64)), (14, .d (.int .i64))], [.var 61 (.ag [.wn 4 c0, .d c1, .d (.int .i64), .d c2, .d (.int .i64), .d .bool]), .row 3 (.int .i64), .var 25 (.ag [.wn 1 (.int .i64), .d (.int .i64), .d (.int .i64)]), .var 66 (.d c4), .row 64 c0]⟩
def device_Device_Cut_3_j1_1_0_1_0_0_1_1_0_0_1_1 : XS := .one .normal device_Device_Cut_3_j1_1_0_1_0_0_1_1_0_0_1_1K0.xe
theorem device_Device_Cut_3_j1_1_0_1_0_0_1_1_0_0_1_1_ok : device_Device_Cut_3_j1_1_0_1_0_0_1_1_0_0_1_1.OK := XS.one_ok (shp_ok device_Device_Cut_3_j1_1_0_1_0_0_1_1_0_0_1_1K0)
def device_Device_Cut_3_j1_1_0_1_0_0_1_1_0_0_1_1E : Shp := ⟨53, 2, [(0, .pt 0 (.one (.st (.cons .leaf (.cons .leaf (.cons .leaf (.cons (.st (.cons .leaf (.cons .leaf (.one .leaf)))) (.cons .leaf (.one .leaf)))))))) []), (3, .pt 2 (.one (.st (.cons .leaf (.cons .leaf (.one .leaf))))) []), (4, .d (.int .i64)), (5, .pt 3 (.one (.st (.cons .leaf (.one (.arr 256 .leaf))))) []), (6, .d (.int .i64)), (12, .d c1), (13, .d (.int .i64)), (14, .d (.int .i64))], [.var 61 (.ag [.wn 4 c0, .d c1, .d (.int .i64), .d c2, .d (.int .i64), .d .bool]), .row 3 (.int .i64), .var 25 (.ag [.wn 1 (.int .i64), .d (.int .i64), .d (.int .i64)]), .var 66 (.d c4), .row 64 c0]⟩
def device_Device_Cut_3_l1_1_0_1_0XK0 : Shp := ⟨53, 2, [(0, .pt 0 (.one (.st (.cons .leaf (.cons .leaf (.cons .leaf (.cons (.st (.cons .leaf (.cons .leaf (.one .leaf)))) (.cons .leaf (.one .leaf)))))))) [])], [.var 61 (.ag [.wn 2 c0, .d c1, .d (.int .i64), .d c2, .d (.int .i64), .d .bool]), .row 3 (.int .i64), .row 64 c0]⟩
def device_Device_Cut_3_l1_1_0_1_0X : XS := .one (.exit 0) device_Device_Cut_3_l1_1_0_1_0XK0.xe
theorem device_Device_Cut_3_l1_1_0_1_0X_ok : device_Device_Cut_3_l1_1_0_1_0X.OK := XS.one_ok (shp_ok device_Device_Cut_3_l1_1_0_1_0XK0)
def device_Device_Cut_3_l1_1_0_1_0S : Shp := ⟨53, 2, [(0, .pt 0 (.one (.st (.cons .leaf (.cons .leaf (.cons .leaf (.cons (.st (.cons .leaf (.cons .leaf (.one .leaf)))) (.cons .leaf (.one .leaf)))))))) []), (3, .pt 2 (.one (.st (.cons .leaf (.cons .leaf (.one .leaf))))) []), (12, .d c1), (13, .d (.int .i64)), (14, .d (.int .i64))], [.var 61 (.ag [.wn 3 c0, .d c1, .d (.int .i64), .d c2, .d (.int .i64), .d .bool]), .row 3 (.int .i64), .var 25 (.ag [.wn 1 (.int .i64), .d (.int .i64), .d (.int .i64)]), .row 64 c0]⟩
def device_Device_Cut_3_l1_1_0_1_0r (t12 : List (Int × (List Int))) (t13 : Int) (t14 : Int) (d : List (Int × (List Int))) (d2 : Int) (d3 : (List Int) × Int × Int) (d4 : Int) (d5 : Bool) (h : List Int) (c : Int) (c2 : Int) (d6 : List (List Int)) : Option (((List (Int × (List Int))) × Int × Int × (List (Int × (List Int))) × Int × ((List Int) × Int × Int) × Int × Bool × (List Int) × Int × Int × (List (List Int))) ⊕ (((List (Int × (List Int))) × Int × ((List Int) × Int × Int) × Int × Bool × (List Int) × (List (List Int))))) :=
  bif ltI t14 t13 then
  (idxI t12 t14).bind fun x =>
  (show Option ((Int × (List (Int × (List Int))) × Int × Int × (List (Int × (List Int))) × Int × ((List Int) × Int × Int) × Int × Bool × (List Int) × Int × Int × (Int × (List Int)) × (List (List Int)))) from
  winK h 0 (List.length h) fun w =>
  (slices_Contains w t14).bind fun r =>
  bif r then
  bif Nat.beq (List.length d6) (List.length d6) then
  bif Nat.beq (List.length h) (List.length h) then
  some (256, t12, t13, t14, d, d2, d3, d4, d5, h, c, c2, x, d6)
  else none
  else none
  else
  bif eqI c t14 then
  bif Nat.beq (List.length d6) (List.length d6) then
  bif Nat.beq (List.length h) (List.length h) then
  some (maxI 0 (minI c2 256), t12, t13, t14, d, d2, d3, d4, d5, h, c, c2, x, d6)
  else none
  else none
  else
  bif Nat.beq (List.length d6) (List.length d6) then
  bif Nat.beq (List.length h) (List.length h) then
  some (0, t12, t13, t14, d, d2, d3, d4, d5, h, c, c2, x, d6)
  else none
  else none).bind fun j =>
  bif inI j.2.2.2.2.2.2.2.2.2.2.2.2.1.1 (List.length j.2.2.2.2.2.2.2.2.2.2.2.2.2) then
  (j.2.2.2.2.2.2.2.2.2.2.2.2.2[j.2.2.2.2.2.2.2.2.2.2.2.2.1.1.toNat]?).bind fun x2 =>
  bif subOk 0 j.1 256 then
  winK j.2.2.2.2.2.2.2.2.2.2.2.2.1.2 0 256 fun w2 =>
  (j.2.2.2.2.2.2.2.2.2.2.2.2.2[j.2.2.2.2.2.2.2.2.2.2.2.2.1.1.toNat]?).bind fun x3 =>
  bif Nat.ble j.1.toNat (List.length x3) then
  (j.2.2.2.2.2.2.2.2.2.2.2.2.2[j.2.2.2.2.2.2.2.2.2.2.2.2.1.1.toNat]?).bind fun _x =>
  bif Nat.beq (List.length j.2.2.2.2.2.2.2.2.2.2.2.2.2) (List.length (j.2.2.2.2.2.2.2.2.2.2.2.2.2.set j.2.2.2.2.2.2.2.2.2.2.2.2.1.1.toNat (cpyL x3 0 j.1.toNat w2))) then
  bif Nat.beq (List.length j.2.2.2.2.2.2.2.2.2.1) (List.length j.2.2.2.2.2.2.2.2.2.1) then
  some (.inl (j.2.1, j.2.2.1, W64 (j.2.2.2.1 + 1), j.2.2.2.2.1, j.2.2.2.2.2.1, j.2.2.2.2.2.2.1, j.2.2.2.2.2.2.2.1, j.2.2.2.2.2.2.2.2.1, j.2.2.2.2.2.2.2.2.2.1, j.2.2.2.2.2.2.2.2.2.2.1, j.2.2.2.2.2.2.2.2.2.2.2.1, j.2.2.2.2.2.2.2.2.2.2.2.2.2.set j.2.2.2.2.2.2.2.2.2.2.2.2.1.1.toNat (cpyL x3 0 j.1.toNat w2)))
  else none
  else none
  else none
  else none
  else none
  else
  bif Nat.beq (List.length d6) (List.length d6) then
  some (.inr (d, d2, d3, d4, d5, h, d6))
  else none
def device_Device_Cut_3_l1_1_0_1_0g (s : (List (Int × (List Int))) × Int × Int × (List (Int × (List Int))) × Int × ((List Int) × Int × Int) × Int × Bool × (List Int) × Int × Int × (List (List Int))) : Option (((List (Int × (List Int))) × Int × Int × (List (Int × (List Int))) × Int × ((List Int) × Int × Int) × Int × Bool × (List Int) × Int × Int × (List (List Int))) ⊕ (((List (Int × (List Int))) × Int × ((List Int) × Int × Int) × Int × Bool × (List Int) × (List (List Int))))) := device_Device_Cut_3_l1_1_0_1_0r s.1 s.2.1 s.2.2.1 s.2.2.2.1 s.2.2.2.2.1 s.2.2.2.2.2.1 s.2.2.2.2.2.2.1 s.2.2.2.2.2.2.2.1 s.2.2.2.2.2.2.2.2.1 s.2.2.2.2.2.2.2.2.2.1 s.2.2.2.2.2.2.2.2.2.2.1 s.2.2.2.2.2.2.2.2.2.2.2
theorem device_Device_Cut_3_l1_1_0_1_0_ok : SoundD Try.prog (.loop (subC (bodyC Try.f15) [1, 1, 0, 1, 0, 0])) (loopD device_Device_Cut_3_l1_1_0_1_0S.xe device_Device_Cut_3_l1_1_0_1_0X (loopC device_Device_Cut_3_l1_1_0_1_0g)) :=
  loop_sound (S := device_Device_Cut_3_l1_1_0_1_0S.xe) (X := device_Device_Cut_3_l1_1_0_1_0X) device_Device_Cut_3_env (h := (.two .no (.two .no (.two (.two .no (.two .no (.join (fun _ => device_Device_Cut_3_j1_1_0_1_0_0_1_1_0_0_1_1) .no (.reg [] [11, 0])))) .no)))) (hok_of [.xs (fun _ => device_Device_Cut_3_j1_1_0_1_0_0_1_1_0_0_1_1)] (by kernel_rfl) ⟨(oneX_ok device_Device_Cut_3_j1_1_0_1_0_0_1_1_0_0_1_1_ok), trivial⟩) (shp_ok device_Device_Cut_3_l1_1_0_1_0S) device_Device_Cut_3_l1_1_0_1_0X_ok device_Device_Cut_3_l1_1_0_1_0g (fun s => by kernel_rfl)
def device_Device_Cut_3_XK0 : Shp := ⟨1, 2, [(0, .tu [])], [.var 61 (.ag [.wn 2 c0, .d c1, .d (.int .i64), .d c2, .d (.int .i64), .d .bool]), .row 3 (.int .i64), .row 64 c0]⟩
def device_Device_Cut_3_X : XS := .one .ret device_Device_Cut_3_XK0.xe
theorem device_Device_Cut_3_X_ok : device_Device_Cut_3_X.OK := XS.one_ok (shp_ok device_Device_Cut_3_XK0)
def device_Device_Cut_3 (c : Int) (c2 : Int) (d : List (Int × (List Int))) (d2 : Int) (d3 : (List Int) × Int × Int) (d4 : Int) (d5 : Bool) (c3 : List Int) (d6 : List (List Int)) : Option (((List (Int × (List Int))) × Int × ((List Int) × Int × Int) × Int × Bool × (List Int) × (List (List Int)))) :=
  winK d6 0 (List.length d6) fun w =>
  (device_Device_Off (w, d, d2, d3, d4, d5)).bind fun r =>
  bif r then
  bif Nat.beq (List.length d6) (List.length d6) then
  some (d, d2, d3, d4, d5, c3, d6)
  else none
  else
  shortK (List.length d) (
  bif Nat.beq (List.length d6) (List.length d6) then
  bif Nat.beq (List.length c3) (List.length c3) then
  (loopC device_Device_Cut_3_l1_1_0_1_0g (d, (List.length d : Nat), 0, d, d2, d3, d4, d5, c3, c, c2, d6)).bind fun o =>
  bif Nat.beq (List.length o.2.2.2.2.2.2) (List.length o.2.2.2.2.2.2) then
  some ([], (-1), o.2.2.1, o.2.2.2.1, true, o.2.2.2.2.2.1, o.2.2.2.2.2.2)
  else none
  else none
  else none)
def device_Device_Cut_3_S : Sig := ⟨15, [.pt 0 (.one (.st (.cons .leaf (.cons .leaf (.cons .leaf (.cons (.st (.cons .leaf (.cons .leaf (.one .leaf)))) (.cons .leaf (.one .leaf)))))))) [], .ag [.wn 1 (.int .i64), .d (.int .i64), .d (.int .i64)]], [.var 61 (.ag [.wn 2 c0, .d c1, .d (.int .i64), .d c2, .d (.int .i64), .d .bool]), .row 3 (.int .i64), .row 64 c0], 2, device_Device_Cut_3_X⟩
def device_Device_Cut_3_fn (x : Int × Int × (List (Int × (List Int))) × Int × ((List Int) × Int × Int) × Int × Bool × (List Int) × (List (List Int))) : Option (((List (Int × (List Int))) × Int × ((List Int) × Int × Int) × Int × Bool × (List Int) × (List (List Int)))) := device_Device_Cut_3 x.1 x.2.1 x.2.2.1 x.2.2.2.1 x.2.2.2.2.1 x.2.2.2.2.2.1 x.2.2.2.2.2.2.1 x.2.2.2.2.2.2.2.1 x.2.2.2.2.2.2.2.2
theorem device_Device_Cut_3_ok : FnOK Try.prog device_Device_Cut_3_S device_Device_Cut_3_fn :=
  fn_ok device_Device_Cut_3_env (h := (.two .no (.two .no (.two (.two .no (.over (loopD device_Device_Cut_3_l1_1_0_1_0S.xe device_Device_Cut_3_l1_1_0_1_0X (loopC device_Device_Cut_3_l1_1_0_1_0g)))) .no)))) Try.func15 (hok_of [.den (.loop (subC (bodyC Try.f15) [1, 1, 0, 1, 0, 0])) (loopD device_Device_Cut_3_l1_1_0_1_0S.xe device_Device_Cut_3_l1_1_0_1_0X (loopC device_Device_Cut_3_l1_1_0_1_0g))] (by kernel_rfl) ⟨device_Device_Cut_3_l1_1_0_1_0_ok, trivial⟩) (by kernel_rfl) device_Device_Cut_3_X_ok (fun x => by kernel_rfl)

/- (*device.Device).Cut -/
def device_Device_Cut_4_V : Env := ⟨[(entQ device_Device_Off_3_S device_Device_Off_3_fn)], [], []⟩
theorem device_Device_Cut_4_env : EnvsOK Try.prog device_Device_Cut_4_V := ⟨env_cons (entQ_ok device_Device_Off_3_ok) (env_nil _), fenv_nil _, denv_nil _⟩
def device_Device_Cut_4_XK0 : Shp := ⟨1, 1, [(0, .tu [])], [.row 3 (.int .i64)]⟩
def device_Device_Cut_4_X : XS := .one .ret device_Device_Cut_4_XK0.xe
theorem device_Device_Cut_4_X_ok : device_Device_Cut_4_X.OK := XS.one_ok (shp_ok device_Device_Cut_4_XK0)
def device_Device_Cut_4 (c : Int) (c2 : Int) (c3 : List Int) : Option (((List Int))) :=
  (device_Device_Off_3).bind fun r =>
  bif r then
  some c3
  else
  none
def device_Device_Cut_4_S : Sig := ⟨15, [.c .nilp, .ag [.wn 0 (.int .i64), .d (.int .i64), .d (.int .i64)]], [.row 3 (.int .i64)], 1, device_Device_Cut_4_X⟩
def device_Device_Cut_4_fn (x : Int × Int × (List Int)) : Option (((List Int))) := device_Device_Cut_4 x.1 x.2.1 x.2.2
theorem device_Device_Cut_4_ok : FnOK Try.prog device_Device_Cut_4_S device_Device_Cut_4_fn :=
  fn_ok device_Device_Cut_4_env (h := .no) Try.func15 (hok_of [] (by kernel_rfl) trivial) (by kernel_rfl) device_Device_Cut_4_X_ok (fun x => by kernel_rfl)

/- (*device.Device).Write -/
def device_Device_Write_5_V : Env := ⟨[(entQ device_Device_may_3_S device_Device_may_3_fn)], [], []⟩
theorem device_Device_Write_5_env : EnvsOK Try.prog device_Device_Write_5_V := ⟨env_cons (entQ_ok device_Device_may_3_ok) (env_nil _), fenv_nil _, denv_nil _⟩
def device_Device_Write_5_XK0 : Shp := ⟨1, 1, [(0, .d (.int .i64))], [.row 5 (.int .u8)]⟩
def device_Device_Write_5_X : XS := .one .ret device_Device_Write_5_XK0.xe
theorem device_Device_Write_5_X_ok : device_Device_Write_5_X.OK := XS.one_ok (shp_ok device_Device_Write_5_XK0)
def device_Device_Write_5 (i : Int) (b : List Int) : Option ((Int × (List Int))) :=
  (device_Device_may_3 i).bind fun r =>
  bif neI r 0 then
  some (r, b)
  else
  shortK (List.length b) (
  bif neI (List.length b : Nat) 256 then
  some (1, b)
  else
  winK b 0 (List.length b) fun w =>
  bif Nat.ble 256 (List.length (List.replicate 256 (0 : Int))) then
  none
  else none)
def device_Device_Write_5_S : Sig := ⟨13, [.c .nilp, .d (.int .i64), .wn 0 (.int .u8)], [.row 5 (.int .u8)], 1, device_Device_Write_5_X⟩
def device_Device_Write_5_fn (x : Int × (List Int)) : Option ((Int × (List Int))) := device_Device_Write_5 x.1 x.2
theorem device_Device_Write_5_ok : FnOK Try.prog device_Device_Write_5_S device_Device_Write_5_fn :=
  fn_ok device_Device_Write_5_env (h := .no) Try.func13 (hok_of [] (by kernel_rfl) trivial) (by kernel_rfl) device_Device_Write_5_X_ok (fun x => by kernel_rfl)

/- wardshiplaw03.DeviceAll -/
def law03_DeviceAll_V : Env := ⟨[(entQ law03_lives_S law03_lives_fn), (entQ law03_fits_S law03_fits_fn), (entQ device_Device_Loose_S device_Device_Loose_fn), (entQ device_Device_Loose_2_S device_Device_Loose_2_fn)], [(entP device_New_S device_New_fn), (entP law03_full_2_S law03_full_2_fn), (entP device_Device_Write_5_S device_Device_Write_5_fn), (entP device_Device_Barrier_3_S device_Device_Barrier_3_fn), (entP device_Device_Cut_4_S device_Device_Cut_4_fn), (entP device_Device_Read_4_S device_Device_Read_4_fn), (entP device_Device_On_3_S device_Device_On_3_fn), (entP device_Device_Write_4_S device_Device_Write_4_fn), (entP device_Device_Barrier_S device_Device_Barrier_fn), (entP device_Device_Cut_3_S device_Device_Cut_3_fn), (entP device_Device_Read_2_S device_Device_Read_2_fn), (entP device_Device_On_S device_Device_On_fn)], []⟩
theorem law03_DeviceAll_env : EnvsOK Try.prog law03_DeviceAll_V := ⟨env_cons (entQ_ok law03_lives_ok) (env_cons (entQ_ok law03_fits_ok) (env_cons (entQ_ok device_Device_Loose_ok) (env_cons (entQ_ok device_Device_Loose_2_ok) (env_nil _)))), fenv_cons (entP_ok device_New_ok) (fenv_cons (entP_ok law03_full_2_ok) (fenv_cons (entP_ok device_Device_Write_5_ok) (fenv_cons (entP_ok device_Device_Barrier_3_ok) (fenv_cons (entP_ok device_Device_Cut_4_ok) (fenv_cons (entP_ok device_Device_Read_4_ok) (fenv_cons (entP_ok device_Device_On_3_ok) (fenv_cons (entP_ok device_Device_Write_4_ok) (fenv_cons (entP_ok device_Device_Barrier_ok) (fenv_cons (entP_ok device_Device_Cut_3_ok) (fenv_cons (entP_ok device_Device_Read_2_ok) (fenv_cons (entP_ok device_Device_On_ok) (fenv_nil _)))))))))))), denv_nil _⟩
def law03_DeviceAll_j1_1K0 : Shp := ⟨128, 0, [(0, .d c5), (1, .d .bool), (5, .c .nilp)], []⟩
def law03_DeviceAll_j1_1K1 : Shp := ⟨128, 0, [(0, .d c5), (1, .d .bool), (5, .pt 0 (.one (.st (.cons .leaf (.cons .leaf (.cons .leaf (.cons (.st (.cons .leaf (.cons .leaf (.one .leaf)))) (.cons .leaf (.one .leaf)))))))) [])], [.var 61 (.ag [.wn 1 c0, .d c1, .d (.int .i64), .d c2, .d (.int .i64), .d .bool]), .row 64 c0]⟩
def law03_DeviceAll_j1_1 : XS := .or .normal law03_DeviceAll_j1_1K0.xe (.one .normal law03_DeviceAll_j1_1K1.xe)
theorem law03_DeviceAll_j1_1_ok : law03_DeviceAll_j1_1.OK := XS.or_ok (shp_ok law03_DeviceAll_j1_1K0) (XS.one_ok (shp_ok law03_DeviceAll_j1_1K1))
def law03_DeviceAll_j1_1E : Shp := ⟨128, 0, [(0, .d c5), (1, .d .bool)], []⟩
def law03_DeviceAll_l1_1_1_1_0_1_0XK0 : Shp := ⟨128, 0, [(0, .d c5), (1, .d .bool), (5, .c .nilp), (7, .pt 0 (.one (.arr 6 .leaf)) []), (8, .pt 1 (.one (.arr 6 .leaf)) [])], [.var 32 (.d (.arr 6 .str)), .var 32 (.d (.arr 6 .str))]⟩
def law03_DeviceAll_l1_1_1_1_0_1_0X : XS := .one (.exit 0) law03_DeviceAll_l1_1_1_1_0_1_0XK0.xe
theorem law03_DeviceAll_l1_1_1_1_0_1_0X_ok : law03_DeviceAll_l1_1_1_1_0_1_0X.OK := XS.one_ok (shp_ok law03_DeviceAll_l1_1_1_1_0_1_0XK0)
def law03_DeviceAll_l1_1_1_1_0_1_0S : Shp := ⟨128, 0, [(0, .d c5), (1, .d .bool), (5, .c .nilp), (7, .pt 0 (.one (.arr 6 .leaf)) []), (8, .pt 1 (.one (.arr 6 .leaf)) []), (33, .d (.int .i64))], [.var 32 (.d (.arr 6 .str)), .var 32 (.d (.arr 6 .str))]⟩
def law03_DeviceAll_l1_1_1_1_0_1_0r (script : List (Int × Int × Int × (List Int) × Bool × ((List Int) × Int × Int))) (all : Bool) (t33 : Int) (sure : List (List Int)) (now : List (List Int)) : Option (((List (Int × Int × Int × (List Int) × Bool × ((List Int) × Int × Int))) × Bool × Int × (List (List Int)) × (List (List Int))) ⊕ (((List (Int × Int × Int × (List Int) × Bool × ((List Int) × Int × Int))) × Bool × (List (List Int)) × (List (List Int))))) :=
  bif ltI t33 6 then
  winK (List.replicate 256 (0 : Int)) 0 256 fun w =>
  bif inI t33 6 then
  (now[t33.toNat]?).bind fun _x =>
  some (.inl (script, all, W64 (t33 + 1), sure, now.set t33.toNat w))
  else none
  else
  some (.inr (script, all, sure, now))
def law03_DeviceAll_l1_1_1_1_0_1_0g (s : (List (Int × Int × Int × (List Int) × Bool × ((List Int) × Int × Int))) × Bool × Int × (List (List Int)) × (List (List Int))) : Option (((List (Int × Int × Int × (List Int) × Bool × ((List Int) × Int × Int))) × Bool × Int × (List (List Int)) × (List (List Int))) ⊕ (((List (Int × Int × Int × (List Int) × Bool × ((List Int) × Int × Int))) × Bool × (List (List Int)) × (List (List Int))))) := law03_DeviceAll_l1_1_1_1_0_1_0r s.1 s.2.1 s.2.2.1 s.2.2.2.1 s.2.2.2.2
theorem law03_DeviceAll_l1_1_1_1_0_1_0_ok : SoundD Try.prog (.loop (subC (bodyC Try.f4) [1, 1, 1, 1, 0, 1, 0, 0])) (loopD law03_DeviceAll_l1_1_1_1_0_1_0S.xe law03_DeviceAll_l1_1_1_1_0_1_0X (loopC law03_DeviceAll_l1_1_1_1_0_1_0g)) :=
  loop_sound (S := law03_DeviceAll_l1_1_1_1_0_1_0S.xe) (X := law03_DeviceAll_l1_1_1_1_0_1_0X) law03_DeviceAll_env (h := .no) (hok_of [] (by kernel_rfl) trivial) (shp_ok law03_DeviceAll_l1_1_1_1_0_1_0S) law03_DeviceAll_l1_1_1_1_0_1_0X_ok law03_DeviceAll_l1_1_1_1_0_1_0g (fun s => by kernel_rfl)
def law03_DeviceAll_l1_1_1_1_1_1_1_0_1_0XK0 : Shp := ⟨128, 0, [(1, .d .bool), (5, .c .nilp), (7, .pt 0 (.one (.arr 6 .leaf)) []), (8, .pt 1 (.one (.arr 6 .leaf)) []), (10, .pt 2 (.one (.st (.cons .leaf (.cons .leaf (.one .leaf))))) [])], [.var 32 (.d (.arr 6 .str)), .var 32 (.d (.arr 6 .str)), .var 25 (.ag [.wn 3 (.int .i64), .d (.int .i64), .d (.int .i64)]), .row 3 (.int .i64)]⟩
def law03_DeviceAll_l1_1_1_1_1_1_1_0_1_0XK1 : Shp := ⟨128, 0, [(4, .d .bool)], []⟩
def law03_DeviceAll_l1_1_1_1_1_1_1_0_1_0X : XS := .or (.exit 2) law03_DeviceAll_l1_1_1_1_1_1_1_0_1_0XK0.xe (.one .ret law03_DeviceAll_l1_1_1_1_1_1_1_0_1_0XK1.xe)
theorem law03_DeviceAll_l1_1_1_1_1_1_1_0_1_0X_ok : law03_DeviceAll_l1_1_1_1_1_1_1_0_1_0X.OK := XS.or_ok (shp_ok law03_DeviceAll_l1_1_1_1_1_1_1_0_1_0XK0) (XS.one_ok (shp_ok law03_DeviceAll_l1_1_1_1_1_1_1_0_1_0XK1))
def law03_DeviceAll_l1_1_1_1_1_1_1_0_1_0S : Shp := ⟨128, 0, [(1, .d .bool), (5, .c .nilp), (7, .pt 0 (.one (.arr 6 .leaf)) []), (8, .pt 1 (.one (.arr 6 .leaf)) []), (10, .pt 2 (.one (.st (.cons .leaf (.cons .leaf (.one .leaf))))) []), (43, .d c5), (44, .d (.int .i64)), (45, .d (.int .i64))], [.var 32 (.d (.arr 6 .str)), .var 32 (.d (.arr 6 .str)), .var 25 (.ag [.wn 3 (.int .i64), .d (.int .i64), .d (.int .i64)]), .row 3 (.int .i64)]⟩
def law03_DeviceAll_l1_1_1_1_1_1_1_0_1_0r (all : Bool) (t43 : List (Int × Int × Int × (List Int) × Bool × ((List Int) × Int × Int))) (t44 : Int) (t45 : Int) (sure : List (List Int)) (now : List (List Int)) (c : Int) (c2 : Int) (c3 : List Int) : Option ((Bool × (List (Int × Int × Int × (List Int) × Bool × ((List Int) × Int × Int))) × Int × Int × (List (List Int)) × (List (List Int)) × Int × Int × (List Int)) ⊕ ((Bool × (List (List Int)) × (List (List Int)) × Int × Int × (List Int)) ⊕ (Bool))) :=
  bif ltI t45 t44 then
  (idxI t43 t45).bind fun x =>
  shortK (List.length x.2.2.2.1) (
  bif subOk 0 (minI (List.length x.2.2.2.1 : Nat) 256) (List.length x.2.2.2.1) then
  (law03_full_2 x.2.2.1 (subL x.2.2.2.1 0 (minI (List.length x.2.2.2.1 : Nat) 256))).bind fun r =>
  bif Nat.beq (List.length r) (List.length r) then
  (device_Device_Write_5 (W64 ((WU64 (x.2.1)).tmod 6)) r).bind fun r2 =>
  bif neI r2.1 0 then
  some (.inr (.inr false))
  else
  winK r2.2 0 (List.length r) fun w =>
  bif inI (W64 ((WU64 (x.2.1)).tmod 6)) 6 then
  (now[(W64 ((WU64 (x.2.1)).tmod 6)).toNat]?).bind fun _x =>
  bif eqI (t45.tmod 7) 6 then
  (device_Device_Barrier_3).bind fun r3 =>
  bif neI r3 0 then
  some (.inr (.inr false))
  else
  bif Nat.beq (List.length c3) (List.length c3) then
  some (.inl ((all, t43, t44, W64 (t45 + 1), now.set ((W64 ((WU64 (x.2.1)).tmod 6)).toNat) w, now.set ((W64 ((WU64 (x.2.1)).tmod 6)).toNat) w, c, c2, c3)))
  else none
  else
  bif Nat.beq (List.length c3) (List.length c3) then
  some (.inl ((all, t43, t44, W64 (t45 + 1), sure, now.set ((W64 ((WU64 (x.2.1)).tmod 6)).toNat) w, c, c2, c3)))
  else none
  else none
  else none
  else none)
  else
  bif Nat.beq (List.length c3) (List.length c3) then
  some (.inr (.inl (all, sure, now, c, c2, c3)))
  else none
def law03_DeviceAll_l1_1_1_1_1_1_1_0_1_0g (s : Bool × (List (Int × Int × Int × (List Int) × Bool × ((List Int) × Int × Int))) × Int × Int × (List (List Int)) × (List (List Int)) × Int × Int × (List Int)) : Option ((Bool × (List (Int × Int × Int × (List Int) × Bool × ((List Int) × Int × Int))) × Int × Int × (List (List Int)) × (List (List Int)) × Int × Int × (List Int)) ⊕ ((Bool × (List (List Int)) × (List (List Int)) × Int × Int × (List Int)) ⊕ (Bool))) := law03_DeviceAll_l1_1_1_1_1_1_1_0_1_0r s.1 s.2.1 s.2.2.1 s.2.2.2.1 s.2.2.2.2.1 s.2.2.2.2.2.1 s.2.2.2.2.2.2.1 s.2.2.2.2.2.2.2.1 s.2.2.2.2.2.2.2.2
theorem law03_DeviceAll_l1_1_1_1_1_1_1_0_1_0_ok : SoundD Try.prog (.loop (subC (bodyC Try.f4) [1, 1, 1, 1, 1, 1, 1, 0, 1, 0, 0])) (loopD law03_DeviceAll_l1_1_1_1_1_1_1_0_1_0S.xe law03_DeviceAll_l1_1_1_1_1_1_1_0_1_0X (loopC law03_DeviceAll_l1_1_1_1_1_1_1_0_1_0g)) :=
  loop_sound (S := law03_DeviceAll_l1_1_1_1_1_1_1_0_1_0S.xe) (X := law03_DeviceAll_l1_1_1_1_1_1_1_0_1_0X) law03_DeviceAll_env (h := (.two .no (.two .no (.two (.two .no (.two .no (.two (.reg [] [9, 0, 1]) .no))) .no)))) (hok_of [] (by kernel_rfl) trivial) (shp_ok law03_DeviceAll_l1_1_1_1_1_1_1_0_1_0S) law03_DeviceAll_l1_1_1_1_1_1_1_0_1_0X_ok law03_DeviceAll_l1_1_1_1_1_1_1_0_1_0g (fun s => by kernel_rfl)
def law03_DeviceAll_j1_1_1_1_1_1_1_1K0 : Shp := ⟨128, 0, [(5, .c .nilp), (7, .pt 0 (.one (.arr 6 .leaf)) []), (10, .pt 1 (.one (.st (.cons .leaf (.cons .leaf (.one .leaf))))) [])], [.var 32 (.d (.arr 6 .str)), .var 25 (.ag [.wn 2 (.int .i64), .d (.int .i64), .d (.int .i64)]), .row 3 (.int .i64)]⟩
def law03_DeviceAll_j1_1_1_1_1_1_1_1 : XS := .one .normal law03_DeviceAll_j1_1_1_1_1_1_1_1K0.xe
theorem law03_DeviceAll_j1_1_1_1_1_1_1_1_ok : law03_DeviceAll_j1_1_1_1_1_1_1_1.OK := XS.one_ok (shp_ok law03_DeviceAll_j1_1_1_1_1_1_1_1K0)
def law03_DeviceAll_j1_1_1_1_1_1_1_1E : Shp := ⟨128, 0, [(1, .d .bool), (5, .c .nilp), (7, .pt 0 (.one (.arr 6 .leaf)) []), (8, .pt 1 (.one (.arr 6 .leaf)) []), (10, .pt 2 (.one (.st (.cons .leaf (.cons .leaf (.one .leaf))))) [])], [.var 32 (.d (.arr 6 .str)), .var 32 (.d (.arr 6 .str)), .var 25 (.ag [.wn 3 (.int .i64), .d (.int .i64), .d (.int .i64)]), .row 3 (.int .i64)]⟩
def law03_DeviceAll_l1_1_1_1_1_1_1_1_0_1_0_0_1_0XK0 : Shp := ⟨128, 0, [(5, .c .nilp), (7, .pt 0 (.one (.arr 6 .leaf)) []), (8, .pt 1 (.one (.arr 6 .leaf)) []), (10, .pt 2 (.one (.st (.cons .leaf (.cons .leaf (.one .leaf))))) [])], [.var 32 (.d (.arr 6 .str)), .var 32 (.d (.arr 6 .str)), .var 25 (.ag [.wn 3 (.int .i64), .d (.int .i64), .d (.int .i64)]), .row 3 (.int .i64)]⟩
def law03_DeviceAll_l1_1_1_1_1_1_1_1_0_1_0_0_1_0X : XS := .one (.exit 4) law03_DeviceAll_l1_1_1_1_1_1_1_1_0_1_0_0_1_0XK0.xe
theorem law03_DeviceAll_l1_1_1_1_1_1_1_1_0_1_0_0_1_0X_ok : law03_DeviceAll_l1_1_1_1_1_1_1_1_0_1_0_0_1_0X.OK := XS.one_ok (shp_ok law03_DeviceAll_l1_1_1_1_1_1_1_1_0_1_0_0_1_0XK0)
def law03_DeviceAll_l1_1_1_1_1_1_1_1_0_1_0_0_1_0S : Shp := ⟨128, 0, [(5, .c .nilp), (7, .pt 0 (.one (.arr 6 .leaf)) []), (8, .pt 1 (.one (.arr 6 .leaf)) []), (10, .pt 2 (.one (.st (.cons .leaf (.cons .leaf (.one .leaf))))) []), (84, .d (.int .i64)), (85, .d (.int .i64))], [.var 32 (.d (.arr 6 .str)), .var 32 (.d (.arr 6 .str)), .var 25 (.ag [.wn 3 (.int .i64), .d (.int .i64), .d (.int .i64)]), .row 3 (.int .i64)]⟩
def law03_DeviceAll_l1_1_1_1_1_1_1_1_0_1_0_0_1_0r (t84 : Int) (t85 : Int) (sure : List (List Int)) (now : List (List Int)) (c : Int) (c2 : Int) (c3 : List Int) : Option ((Int × Int × (List (List Int)) × (List (List Int)) × Int × Int × (List Int)) ⊕ (((List (List Int)) × (List (List Int)) × Int × Int × (List Int)))) :=
  bif ltI t85 t84 then
  bif Nat.beq (List.length c3) (List.length c3) then
  appG (List.length c3) (List.length ([t85] : List Int)) 8 fun _ =>
  bif Nat.beq (List.length (c3 ++ ([t85] : List Int))) (List.length (c3 ++ ([t85] : List Int))) then
  some (.inl (t84, W64 (t85 + 1), sure, now, c, c2, c3 ++ ([t85] : List Int)))
  else none
  else none
  else
  bif Nat.beq (List.length c3) (List.length c3) then
  some (.inr (sure, now, c, c2, c3))
  else none
def law03_DeviceAll_l1_1_1_1_1_1_1_1_0_1_0_0_1_0g (s : Int × Int × (List (List Int)) × (List (List Int)) × Int × Int × (List Int)) : Option ((Int × Int × (List (List Int)) × (List (List Int)) × Int × Int × (List Int)) ⊕ (((List (List Int)) × (List (List Int)) × Int × Int × (List Int)))) := law03_DeviceAll_l1_1_1_1_1_1_1_1_0_1_0_0_1_0r s.1 s.2.1 s.2.2.1 s.2.2.2.1 s.2.2.2.2.1 s.2.2.2.2.2.1 s.2.2.2.2.2.2
theorem law03_DeviceAll_l1_1_1_1_1_1_1_1_0_1_0_0_1_0_ok : SoundD Try.prog (.loop (subC (bodyC Try.f4) [1, 1, 1, 1, 1, 1, 1, 1, 0, 1, 0, 0, 1, 0, 0])) (loopD law03_DeviceAll_l1_1_1_1_1_1_1_1_0_1_0_0_1_0S.xe law03_DeviceAll_l1_1_1_1_1_1_1_1_0_1_0_0_1_0X (loopC law03_DeviceAll_l1_1_1_1_1_1_1_1_0_1_0_0_1_0g)) :=
  loop_sound (S := law03_DeviceAll_l1_1_1_1_1_1_1_1_0_1_0_0_1_0S.xe) (X := law03_DeviceAll_l1_1_1_1_1_1_1_1_0_1_0_0_1_0X) law03_DeviceAll_env (h := .no) (hok_of [] (by kernel_rfl) trivial) (shp_ok law03_DeviceAll_l1_1_1_1_1_1_1_1_0_1_0_0_1_0S) law03_DeviceAll_l1_1_1_1_1_1_1_1_0_1_0_0_1_0X_ok law03_DeviceAll_l1_1_1_1_1_1_1_1_0_1_0_0_1_0g (fun s => by kernel_rfl)
def law03_DeviceAll_l1_1_1_1_1_1_1_1_1_1_1_1_0_1_0XK0 : Shp := ⟨128, 0, [], []⟩
def law03_DeviceAll_l1_1_1_1_1_1_1_1_1_1_1_1_0_1_0XK1 : Shp := ⟨128, 0, [(4, .d .bool)], []⟩
def law03_DeviceAll_l1_1_1_1_1_1_1_1_1_1_1_1_0_1_0X : XS := .or (.exit 6) law03_DeviceAll_l1_1_1_1_1_1_1_1_1_1_1_1_0_1_0XK0.xe (.one .ret law03_DeviceAll_l1_1_1_1_1_1_1_1_1_1_1_1_0_1_0XK1.xe)
theorem law03_DeviceAll_l1_1_1_1_1_1_1_1_1_1_1_1_0_1_0X_ok : law03_DeviceAll_l1_1_1_1_1_1_1_1_1_1_1_1_0_1_0X.OK := XS.or_ok (shp_ok law03_DeviceAll_l1_1_1_1_1_1_1_1_1_1_1_1_0_1_0XK0) (XS.one_ok (shp_ok law03_DeviceAll_l1_1_1_1_1_1_1_1_1_1_1_1_0_1_0XK1))
def law03_DeviceAll_l1_1_1_1_1_1_1_1_1_1_1_1_0_1_0S : Shp := ⟨128, 0, [(5, .c .nilp), (7, .pt 0 (.one (.arr 6 .leaf)) []), (108, .d (.int .i64))], [.var 32 (.d (.arr 6 .str))]⟩
def law03_DeviceAll_l1_1_1_1_1_1_1_1_1_1_1_1_0_1_0r (t108 : Int) (sure : List (List Int)) : Option ((Int × (List (List Int))) ⊕ ((Unit) ⊕ (Bool))) :=
  bif ltI t108 6 then
  (device_Device_Read_4 t108).bind fun r =>
  bif neI r.2 0 then
  some (.inr (.inr false))
  else
  bif inI t108 6 then
  (sure[t108.toNat]?).bind fun x =>
  bif !(eqS r.1 x) then
  some (.inr (.inr false))
  else
  some (.inl (W64 (t108 + 1), sure))
  else none
  else
  some (.inr (.inl ()))
def law03_DeviceAll_l1_1_1_1_1_1_1_1_1_1_1_1_0_1_0g (s : Int × (List (List Int))) : Option ((Int × (List (List Int))) ⊕ ((Unit) ⊕ (Bool))) := law03_DeviceAll_l1_1_1_1_1_1_1_1_1_1_1_1_0_1_0r s.1 s.2
theorem law03_DeviceAll_l1_1_1_1_1_1_1_1_1_1_1_1_0_1_0_ok : SoundD Try.prog (.loop (subC (bodyC Try.f4) [1, 1, 1, 1, 1, 1, 1, 1, 1, 1, 1, 1, 0, 1, 0, 0])) (loopD law03_DeviceAll_l1_1_1_1_1_1_1_1_1_1_1_1_0_1_0S.xe law03_DeviceAll_l1_1_1_1_1_1_1_1_1_1_1_1_0_1_0X (loopC law03_DeviceAll_l1_1_1_1_1_1_1_1_1_1_1_1_0_1_0g)) :=
  loop_sound (S := law03_DeviceAll_l1_1_1_1_1_1_1_1_1_1_1_1_0_1_0S.xe) (X := law03_DeviceAll_l1_1_1_1_1_1_1_1_1_1_1_1_0_1_0X) law03_DeviceAll_env (h := .no) (hok_of [] (by kernel_rfl) trivial) (shp_ok law03_DeviceAll_l1_1_1_1_1_1_1_1_1_1_1_1_0_1_0S) law03_DeviceAll_l1_1_1_1_1_1_1_1_1_1_1_1_0_1_0X_ok law03_DeviceAll_l1_1_1_1_1_1_1_1_1_1_1_1_0_1_0g (fun s => by kernel_rfl)
def law03_DeviceAll_l1_1_1_1_0_1_0n2XK0 : Shp := ⟨128, 0, [(0, .d c5), (1, .d .bool), (5, .pt 0 (.one (.st (.cons .leaf (.cons .leaf (.cons .leaf (.cons (.st (.cons .leaf (.cons .leaf (.one .leaf)))) (.cons .leaf (.one .leaf)))))))) []), (7, .pt 1 (.one (.arr 6 .leaf)) []), (8, .pt 2 (.one (.arr 6 .leaf)) [])], [.var 61 (.ag [.wn 3 c0, .d c1, .d (.int .i64), .d c2, .d (.int .i64), .d .bool]), .var 32 (.d (.arr 6 .str)), .var 32 (.d (.arr 6 .str)), .row 64 c0]⟩
def law03_DeviceAll_l1_1_1_1_0_1_0n2X : XS := .one (.exit 0) law03_DeviceAll_l1_1_1_1_0_1_0n2XK0.xe
theorem law03_DeviceAll_l1_1_1_1_0_1_0n2X_ok : law03_DeviceAll_l1_1_1_1_0_1_0n2X.OK := XS.one_ok (shp_ok law03_DeviceAll_l1_1_1_1_0_1_0n2XK0)
def law03_DeviceAll_l1_1_1_1_0_1_0n2S : Shp := ⟨128, 0, [(0, .d c5), (1, .d .bool), (5, .pt 0 (.one (.st (.cons .leaf (.cons .leaf (.cons .leaf (.cons (.st (.cons .leaf (.cons .leaf (.one .leaf)))) (.cons .leaf (.one .leaf)))))))) []), (7, .pt 1 (.one (.arr 6 .leaf)) []), (8, .pt 2 (.one (.arr 6 .leaf)) []), (33, .d (.int .i64))], [.var 61 (.ag [.wn 3 c0, .d c1, .d (.int .i64), .d c2, .d (.int .i64), .d .bool]), .var 32 (.d (.arr 6 .str)), .var 32 (.d (.arr 6 .str)), .row 64 c0]⟩
def law03_DeviceAll_l1_1_1_1_0_1_0n2r (script : List (Int × Int × Int × (List Int) × Bool × ((List Int) × Int × Int))) (all : Bool) (t33 : Int) (d : List (Int × (List Int))) (d2 : Int) (d3 : (List Int) × Int × Int) (d4 : Int) (d5 : Bool) (sure : List (List Int)) (now : List (List Int)) (d6 : List (List Int)) : Option (((List (Int × Int × Int × (List Int) × Bool × ((List Int) × Int × Int))) × Bool × Int × (List (Int × (List Int))) × Int × ((List Int) × Int × Int) × Int × Bool × (List (List Int)) × (List (List Int)) × (List (List Int))) ⊕ (((List (Int × Int × Int × (List Int) × Bool × ((List Int) × Int × Int))) × Bool × (List (Int × (List Int))) × Int × ((List Int) × Int × Int) × Int × Bool × (List (List Int)) × (List (List Int)) × (List (List Int))))) :=
  bif ltI t33 6 then
  winK (List.replicate 256 (0 : Int)) 0 256 fun w =>
  bif inI t33 6 then
  (now[t33.toNat]?).bind fun _x =>
  bif Nat.beq (List.length d6) (List.length d6) then
  some (.inl (script, all, W64 (t33 + 1), d, d2, d3, d4, d5, sure, now.set t33.toNat w, d6))
  else none
  else none
  else
  bif Nat.beq (List.length d6) (List.length d6) then
  some (.inr (script, all, d, d2, d3, d4, d5, sure, now, d6))
  else none
def law03_DeviceAll_l1_1_1_1_0_1_0n2g (s : (List (Int × Int × Int × (List Int) × Bool × ((List Int) × Int × Int))) × Bool × Int × (List (Int × (List Int))) × Int × ((List Int) × Int × Int) × Int × Bool × (List (List Int)) × (List (List Int)) × (List (List Int))) : Option (((List (Int × Int × Int × (List Int) × Bool × ((List Int) × Int × Int))) × Bool × Int × (List (Int × (List Int))) × Int × ((List Int) × Int × Int) × Int × Bool × (List (List Int)) × (List (List Int)) × (List (List Int))) ⊕ (((List (Int × Int × Int × (List Int) × Bool × ((List Int) × Int × Int))) × Bool × (List (Int × (List Int))) × Int × ((List Int) × Int × Int) × Int × Bool × (List (List Int)) × (List (List Int)) × (List (List Int))))) := law03_DeviceAll_l1_1_1_1_0_1_0n2r s.1 s.2.1 s.2.2.1 s.2.2.2.1 s.2.2.2.2.1 s.2.2.2.2.2.1 s.2.2.2.2.2.2.1 s.2.2.2.2.2.2.2.1 s.2.2.2.2.2.2.2.2.1 s.2.2.2.2.2.2.2.2.2.1 s.2.2.2.2.2.2.2.2.2.2
theorem law03_DeviceAll_l1_1_1_1_0_1_0n2_ok : SoundD Try.prog (.loop (subC (bodyC Try.f4) [1, 1, 1, 1, 0, 1, 0, 0])) (loopD law03_DeviceAll_l1_1_1_1_0_1_0n2S.xe law03_DeviceAll_l1_1_1_1_0_1_0n2X (loopC law03_DeviceAll_l1_1_1_1_0_1_0n2g)) :=
  loop_sound (S := law03_DeviceAll_l1_1_1_1_0_1_0n2S.xe) (X := law03_DeviceAll_l1_1_1_1_0_1_0n2X) law03_DeviceAll_env (h := .no) (hok_of [] (by kernel_rfl) trivial) (shp_ok law03_DeviceAll_l1_1_1_1_0_1_0n2S) law03_DeviceAll_l1_1_1_1_0_1_0n2X_ok law03_DeviceAll_l1_1_1_1_0_1_0n2g (fun s => by kernel_rfl)
def law03_DeviceAll_l1_1_1_1_1_1_1_0_1_0n2XK0 : Shp := ⟨128, 0, [(1, .d .bool), (5, .pt 0 (.one (.st (.cons .leaf (.cons .leaf (.cons .leaf (.cons (.st (.cons .leaf (.cons .leaf (.one .leaf)))) (.cons .leaf (.one .leaf)))))))) []), (7, .pt 1 (.one (.arr 6 .leaf)) []), (8, .pt 2 (.one (.arr 6 .leaf)) []), (10, .pt 3 (.one (.st (.cons .leaf (.cons .leaf (.one .leaf))))) [])], [.var 61 (.ag [.wn 4 c0, .d c1, .d (.int .i64), .d c2, .d (.int .i64), .d .bool]), .var 32 (.d (.arr 6 .str)), .var 32 (.d (.arr 6 .str)), .var 25 (.ag [.wn 5 (.int .i64), .d (.int .i64), .d (.int .i64)]), .row 64 c0, .row 3 (.int .i64)]⟩
def law03_DeviceAll_l1_1_1_1_1_1_1_0_1_0n2XK1 : Shp := ⟨128, 0, [(4, .d .bool)], []⟩
def law03_DeviceAll_l1_1_1_1_1_1_1_0_1_0n2X : XS := .or (.exit 2) law03_DeviceAll_l1_1_1_1_1_1_1_0_1_0n2XK0.xe (.one .ret law03_DeviceAll_l1_1_1_1_1_1_1_0_1_0n2XK1.xe)
theorem law03_DeviceAll_l1_1_1_1_1_1_1_0_1_0n2X_ok : law03_DeviceAll_l1_1_1_1_1_1_1_0_1_0n2X.OK := XS.or_ok (shp_ok law03_DeviceAll_l1_1_1_1_1_1_1_0_1_0n2XK0) (XS.one_ok (shp_ok law03_DeviceAll_l1_1_1_1_1_1_1_0_1_0n2XK1))
def law03_DeviceAll_l1_1_1_1_1_1_1_0_1_0n2S : Shp := ⟨128, 0, [(1, .d .bool), (5, .pt 0 (.one (.st (.cons .leaf (.cons .leaf (.cons .leaf (.cons (.st (.cons .leaf (.cons .leaf (.one .leaf)))) (.cons .leaf (.one .leaf)))))))) []), (7, .pt 1 (.one (.arr 6 .leaf)) []), (8, .pt 2 (.one (.arr 6 .leaf)) []), (10, .pt 3 (.one (.st (.cons .leaf (.cons .leaf (.one .leaf))))) []), (43, .d c5), (44, .d (.int .i64)), (45, .d (.int .i64))], [.var 61 (.ag [.wn 4 c0, .d c1, .d (.int .i64), .d c2, .d (.int .i64), .d .bool]), .var 32 (.d (.arr 6 .str)), .var 32 (.d (.arr 6 .str)), .var 25 (.ag [.wn 5 (.int .i64), .d (.int .i64), .d (.int .i64)]), .row 64 c0, .row 3 (.int .i64)]⟩
def law03_DeviceAll_l1_1_1_1_1_1_1_0_1_0n2r (all : Bool) (t43 : List (Int × Int × Int × (List Int) × Bool × ((List Int) × Int × Int))) (t44 : Int) (t45 : Int) (d : List (Int × (List Int))) (d2 : Int) (d3 : (List Int) × Int × Int) (d4 : Int) (d5 : Bool) (sure : List (List Int)) (now : List (List Int)) (c : Int) (c2 : Int) (d6 : List (List Int)) (c3 : List Int) : Option ((Bool × (List (Int × Int × Int × (List Int) × Bool × ((List Int) × Int × Int))) × Int × Int × (List (Int × (List Int))) × Int × ((List Int) × Int × Int) × Int × Bool × (List (List Int)) × (List (List Int)) × Int × Int × (List (List Int)) × (List Int)) ⊕ ((Bool × (List (Int × (List Int))) × Int × ((List Int) × Int × Int) × Int × Bool × (List (List Int)) × (List (List Int)) × Int × Int × (List (List Int)) × (List Int)) ⊕ (Bool))) :=
  bif ltI t45 t44 then
  (idxI t43 t45).bind fun x =>
  shortK (List.length x.2.2.2.1) (
  bif subOk 0 (minI (List.length x.2.2.2.1 : Nat) 256) (List.length x.2.2.2.1) then
  (law03_full_2 x.2.2.1 (subL x.2.2.2.1 0 (minI (List.length x.2.2.2.1 : Nat) 256))).bind fun r =>
  bif Nat.beq (List.length r) (List.length r) then
  bif Nat.beq (List.length d6) (List.length d6) then
  (device_Device_Write_4 (W64 ((WU64 (x.2.1)).tmod 6)) d d2 d3 d4 d5 r d6).bind fun r2 =>
  bif neI r2.1 0 then
  some (.inr (.inr false))
  else
  winK r2.2.2.2.2.2.2.1 0 (List.length r) fun w =>
  bif inI (W64 ((WU64 (x.2.1)).tmod 6)) 6 then
  (now[(W64 ((WU64 (x.2.1)).tmod 6)).toNat]?).bind fun _x =>
  bif eqI (t45.tmod 7) 6 then
  bif Nat.beq (List.length r2.2.2.2.2.2.2.2) (List.length r2.2.2.2.2.2.2.2) then
  (device_Device_Barrier r2.2.1 r2.2.2.1 r2.2.2.2.1 r2.2.2.2.2.1 r2.2.2.2.2.2.1 r2.2.2.2.2.2.2.2).bind fun r3 =>
  bif neI r3.1 0 then
  some (.inr (.inr false))
  else
  bif Nat.beq (List.length r3.2.2.2.2.2.2) (List.length r3.2.2.2.2.2.2) then
  bif Nat.beq (List.length c3) (List.length c3) then
  some (.inl ((all, t43, t44, W64 (t45 + 1), r3.2.1, r3.2.2.1, r3.2.2.2.1, r3.2.2.2.2.1, r3.2.2.2.2.2.1, now.set ((W64 ((WU64 (x.2.1)).tmod 6)).toNat) w, now.set ((W64 ((WU64 (x.2.1)).tmod 6)).toNat) w, c, c2, r3.2.2.2.2.2.2, c3)))
  else none
  else none
  else none
  else
  bif Nat.beq (List.length r2.2.2.2.2.2.2.2) (List.length r2.2.2.2.2.2.2.2) then
  bif Nat.beq (List.length c3) (List.length c3) then
  some (.inl ((all, t43, t44, W64 (t45 + 1), r2.2.1, r2.2.2.1, r2.2.2.2.1, r2.2.2.2.2.1, r2.2.2.2.2.2.1, sure, now.set ((W64 ((WU64 (x.2.1)).tmod 6)).toNat) w, c, c2, r2.2.2.2.2.2.2.2, c3)))
  else none
  else none
  else none
  else none
  else none
  else none)
  else
  bif Nat.beq (List.length d6) (List.length d6) then
  bif Nat.beq (List.length c3) (List.length c3) then
  some (.inr (.inl (all, d, d2, d3, d4, d5, sure, now, c, c2, d6, c3)))
  else none
  else none
def law03_DeviceAll_l1_1_1_1_1_1_1_0_1_0n2g (s : Bool × (List (Int × Int × Int × (List Int) × Bool × ((List Int) × Int × Int))) × Int × Int × (List (Int × (List Int))) × Int × ((List Int) × Int × Int) × Int × Bool × (List (List Int)) × (List (List Int)) × Int × Int × (List (List Int)) × (List Int)) : Option ((Bool × (List (Int × Int × Int × (List Int) × Bool × ((List Int) × Int × Int))) × Int × Int × (List (Int × (List Int))) × Int × ((List Int) × Int × Int) × Int × Bool × (List (List Int)) × (List (List Int)) × Int × Int × (List (List Int)) × (List Int)) ⊕ ((Bool × (List (Int × (List Int))) × Int × ((List Int) × Int × Int) × Int × Bool × (List (List Int)) × (List (List Int)) × Int × Int × (List (List Int)) × (List Int)) ⊕ (Bool))) := law03_DeviceAll_l1_1_1_1_1_1_1_0_1_0n2r s.1 s.2.1 s.2.2.1 s.2.2.2.1 s.2.2.2.2.1 s.2.2.2.2.2.1 s.2.2.2.2.2.2.1 s.2.2.2.2.2.2.2.1 s.2.2.2.2.2.2.2.2.1 s.2.2.2.2.2.2.2.2.2.1 s.2.2.2.2.2.2.2.2.2.2.1 s.2.2.2.2.2.2.2.2.2.2.2.1 s.2.2.2.2.2.2.2.2.2.2.2.2.1 s.2.2.2.2.2.2.2.2.2.2.2.2.2.1 s.2.2.2.2.2.2.2.2.2.2.2.2.2.2
theorem law03_DeviceAll_l1_1_1_1_1_1_1_0_1_0n2_ok : SoundD Try.prog (.loop (subC (bodyC Try.f4) [1, 1, 1, 1, 1, 1, 1, 0, 1, 0, 0])) (loopD law03_DeviceAll_l1_1_1_1_1_1_1_0_1_0n2S.xe law03_DeviceAll_l1_1_1_1_1_1_1_0_1_0n2X (loopC law03_DeviceAll_l1_1_1_1_1_1_1_0_1_0n2g)) :=
  loop_sound (S := law03_DeviceAll_l1_1_1_1_1_1_1_0_1_0n2S.xe) (X := law03_DeviceAll_l1_1_1_1_1_1_1_0_1_0n2X) law03_DeviceAll_env (h := (.two .no (.two .no (.two (.two .no (.two .no (.two (.reg [] [9, 0, 1]) .no))) .no)))) (hok_of [] (by kernel_rfl) trivial) (shp_ok law03_DeviceAll_l1_1_1_1_1_1_1_0_1_0n2S) law03_DeviceAll_l1_1_1_1_1_1_1_0_1_0n2X_ok law03_DeviceAll_l1_1_1_1_1_1_1_0_1_0n2g (fun s => by kernel_rfl)
def law03_DeviceAll_j1_1_1_1_1_1_1_1n1K0 : Shp := ⟨128, 0, [(5, .pt 0 (.one (.st (.cons .leaf (.cons .leaf (.cons .leaf (.cons (.st (.cons .leaf (.cons .leaf (.one .leaf)))) (.cons .leaf (.one .leaf)))))))) []), (7, .pt 1 (.one (.arr 6 .leaf)) []), (10, .pt 2 (.one (.st (.cons .leaf (.cons .leaf (.one .leaf))))) [])], [.var 61 (.ag [.wn 3 c0, .d c1, .d (.int .i64), .d c2, .d (.int .i64), .d .bool]), .var 32 (.d (.arr 6 .str)), .var 25 (.ag [.wn 4 (.int .i64), .d (.int .i64), .d (.int .i64)]), .row 64 c0, .row 3 (.int .i64)]⟩
def law03_DeviceAll_j1_1_1_1_1_1_1_1n1 : XS := .one .normal law03_DeviceAll_j1_1_1_1_1_1_1_1n1K0.xe
theorem law03_DeviceAll_j1_1_1_1_1_1_1_1n1_ok : law03_DeviceAll_j1_1_1_1_1_1_1_1n1.OK := XS.one_ok (shp_ok law03_DeviceAll_j1_1_1_1_1_1_1_1n1K0)
def law03_DeviceAll_j1_1_1_1_1_1_1_1n1E : Shp := ⟨128, 0, [(1, .d .bool), (5, .pt 0 (.one (.st (.cons .leaf (.cons .leaf (.cons .leaf (.cons (.st (.cons .leaf (.cons .leaf (.one .leaf)))) (.cons .leaf (.one .leaf)))))))) []), (7, .pt 1 (.one (.arr 6 .leaf)) []), (8, .pt 2 (.one (.arr 6 .leaf)) []), (10, .pt 3 (.one (.st (.cons .leaf (.cons .leaf (.one .leaf))))) [])], [.var 61 (.ag [.wn 4 c0, .d c1, .d (.int .i64), .d c2, .d (.int .i64), .d .bool]), .var 32 (.d (.arr 6 .str)), .var 32 (.d (.arr 6 .str)), .var 25 (.ag [.wn 5 (.int .i64), .d (.int .i64), .d (.int .i64)]), .row 64 c0, .row 3 (.int .i64)]⟩
def law03_DeviceAll_l1_1_1_1_1_1_1_1_0_1_0_0_1_0n2XK0 : Shp := ⟨128, 0, [(5, .pt 0 (.one (.st (.cons .leaf (.cons .leaf (.cons .leaf (.cons (.st (.cons .leaf (.cons .leaf (.one .leaf)))) (.cons .leaf (.one .leaf)))))))) []), (7, .pt 1 (.one (.arr 6 .leaf)) []), (8, .pt 2 (.one (.arr 6 .leaf)) []), (10, .pt 3 (.one (.st (.cons .leaf (.cons .leaf (.one .leaf))))) [])], [.var 61 (.ag [.wn 4 c0, .d c1, .d (.int .i64), .d c2, .d (.int .i64), .d .bool]), .var 32 (.d (.arr 6 .str)), .var 32 (.d (.arr 6 .str)), .var 25 (.ag [.wn 5 (.int .i64), .d (.int .i64), .d (.int .i64)]), .row 64 c0, .row 3 (.int .i64)]⟩
def law03_DeviceAll_l1_1_1_1_1_1_1_1_0_1_0_0_1_0n2X : XS := .one (.exit 4) law03_DeviceAll_l1_1_1_1_1_1_1_1_0_1_0_0_1_0n2XK0.xe
theorem law03_DeviceAll_l1_1_1_1_1_1_1_1_0_1_0_0_1_0n2X_ok : law03_DeviceAll_l1_1_1_1_1_1_1_1_0_1_0_0_1_0n2X.OK := XS.one_ok (shp_ok law03_DeviceAll_l1_1_1_1_1_1_1_1_0_1_0_0_1_0n2XK0)
def law03_DeviceAll_l1_1_1_1_1_1_1_1_0_1_0_0_1_0n2S : Shp := ⟨128, 0, [(5, .pt 0 (.one (.st (.cons .leaf (.cons .leaf (.cons .leaf (.cons (.st (.cons .leaf (.cons .leaf (.one .leaf)))) (.cons .leaf (.one .leaf)))))))) []), (7, .pt 1 (.one (.arr 6 .leaf)) []), (8, .pt 2 (.one (.arr 6 .leaf)) []), (10, .pt 3 (.one (.st (.cons .leaf (.cons .leaf (.one .leaf))))) []), (84, .d (.int .i64)), (85, .d (.int .i64))], [.var 61 (.ag [.wn 4 c0, .d c1, .d (.int .i64), .d c2, .d (.int .i64), .d .bool]), .var 32 (.d (.arr 6 .str)), .var 32 (.d (.arr 6 .str)), .var 25 (.ag [.wn 5 (.int .i64), .d (.int .i64), .d (.int .i64)]), .row 64 c0, .row 3 (.int .i64)]⟩
def law03_DeviceAll_l1_1_1_1_1_1_1_1_0_1_0_0_1_0n2r (t84 : Int) (t85 : Int) (d : List (Int × (List Int))) (d2 : Int) (d3 : (List Int) × Int × Int) (d4 : Int) (d5 : Bool) (sure : List (List Int)) (now : List (List Int)) (c : Int) (c2 : Int) (d6 : List (List Int)) (c3 : List Int) : Option ((Int × Int × (List (Int × (List Int))) × Int × ((List Int) × Int × Int) × Int × Bool × (List (List Int)) × (List (List Int)) × Int × Int × (List (List Int)) × (List Int)) ⊕ (((List (Int × (List Int))) × Int × ((List Int) × Int × Int) × Int × Bool × (List (List Int)) × (List (List Int)) × Int × Int × (List (List Int)) × (List Int)))) :=
  bif ltI t85 t84 then
  bif Nat.beq (List.length c3) (List.length c3) then
  appG (List.length c3) (List.length ([t85] : List Int)) 8 fun _ =>
  bif Nat.beq (List.length d6) (List.length d6) then
  bif Nat.beq (List.length (c3 ++ ([t85] : List Int))) (List.length (c3 ++ ([t85] : List Int))) then
  some (.inl (t84, W64 (t85 + 1), d, d2, d3, d4, d5, sure, now, c, c2, d6, c3 ++ ([t85] : List Int)))
  else none
  else none
  else none
  else
  bif Nat.beq (List.length d6) (List.length d6) then
  bif Nat.beq (List.length c3) (List.length c3) then
  some (.inr (d, d2, d3, d4, d5, sure, now, c, c2, d6, c3))
  else none
  else none
def law03_DeviceAll_l1_1_1_1_1_1_1_1_0_1_0_0_1_0n2g (s : Int × Int × (List (Int × (List Int))) × Int × ((List Int) × Int × Int) × Int × Bool × (List (List Int)) × (List (List Int)) × Int × Int × (List (List Int)) × (List Int)) : Option ((Int × Int × (List (Int × (List Int))) × Int × ((List Int) × Int × Int) × Int × Bool × (List (List Int)) × (List (List Int)) × Int × Int × (List (List Int)) × (List Int)) ⊕ (((List (Int × (List Int))) × Int × ((List Int) × Int × Int) × Int × Bool × (List (List Int)) × (List (List Int)) × Int × Int × (List (List Int)) × (List Int)))) := law03_DeviceAll_l1_1_1_1_1_1_1_1_0_1_0_0_1_0n2r s.1 s.2.1 s.2.2.1 s.2.2.2.1 s.2.2.2.2.1 s.2.2.2.2.2.1 s.2.2.2.2.2.2.1 s.2.2.2.2.2.2.2.1 s.2.2.2.2.2.2.2.2.1 s.2.2.2.2.2.2.2.2.2.1 s.2.2.2.2.2.2.2.2.2.2.1 s.2.2.2.2.2.2.2.2.2.2.2.1 s.2.2.2.2.2.2.2.2.2.2.2.2
theorem law03_DeviceAll_l1_1_1_1_1_1_1_1_0_1_0_0_1_0n2_ok : SoundD Try.prog (.loop (subC (bodyC Try.f4) [1, 1, 1, 1, 1, 1, 1, 1, 0, 1, 0, 0, 1, 0, 0])) (loopD law03_DeviceAll_l1_1_1_1_1_1_1_1_0_1_0_0_1_0n2S.xe law03_DeviceAll_l1_1_1_1_1_1_1_1_0_1_0_0_1_0n2X (loopC law03_DeviceAll_l1_1_1_1_1_1_1_1_0_1_0_0_1_0n2g)) :=
  loop_sound (S := law03_DeviceAll_l1_1_1_1_1_1_1_1_0_1_0_0_1_0n2S.xe) (X := law03_DeviceAll_l1_1_1_1_1_1_1_1_0_1_0_0_1_0n2X) law03_DeviceAll_env (h := .no) (hok_of [] (by kernel_rfl) trivial) (shp_ok law03_DeviceAll_l1_1_1_1_1_1_1_1_0_1_0_0_1_0n2S) law03_DeviceAll_l1_1_1_1_1_1_1_1_0_1_0_0_1_0n2X_ok law03_DeviceAll_l1_1_1_1_1_1_1_1_0_1_0_0_1_0n2g (fun s => by kernel_rfl)
def law03_DeviceAll_l1_1_1_1_1_1_1_1_1_1_1_1_0_1_0n2XK0 : Shp := ⟨128, 0, [], []⟩
def law03_DeviceAll_l1_1_1_1_1_1_1_1_1_1_1_1_0_1_0n2XK1 : Shp := ⟨128, 0, [(4, .d .bool)], []⟩
def law03_DeviceAll_l1_1_1_1_1_1_1_1_1_1_1_1_0_1_0n2X : XS := .or (.exit 6) law03_DeviceAll_l1_1_1_1_1_1_1_1_1_1_1_1_0_1_0n2XK0.xe (.one .ret law03_DeviceAll_l1_1_1_1_1_1_1_1_1_1_1_1_0_1_0n2XK1.xe)
theorem law03_DeviceAll_l1_1_1_1_1_1_1_1_1_1_1_1_0_1_0n2X_ok : law03_DeviceAll_l1_1_1_1_1_1_1_1_1_1_1_1_0_1_0n2X.OK := XS.or_ok (shp_ok law03_DeviceAll_l1_1_1_1_1_1_1_1_1_1_1_1_0_1_0n2XK0) (XS.one_ok (shp_ok law03_DeviceAll_l1_1_1_1_1_1_1_1_1_1_1_1_0_1_0n2XK1))
def law03_DeviceAll_l1_1_1_1_1_1_1_1_1_1_1_1_0_1_0n2S : Shp := ⟨128, 0, [(5, .pt 0 (.one (.st (.cons .leaf (.cons .leaf (.cons .leaf (.cons (.st (.cons .leaf (.cons .leaf (.one .leaf)))) (.cons .leaf (.one .leaf)))))))) []), (7, .pt 1 (.one (.arr 6 .leaf)) []), (108, .d (.int .i64))], [.var 61 (.ag [.wn 2 c0, .d c1, .d (.int .i64), .d c2, .d (.int .i64), .d .bool]), .var 32 (.d (.arr 6 .str)), .row 64 c0]⟩
def law03_DeviceAll_l1_1_1_1_1_1_1_1_1_1_1_1_0_1_0n2r (t108 : Int) (d : List (Int × (List Int))) (d2 : Int) (d3 : (List Int) × Int × Int) (d4 : Int) (d5 : Bool) (sure : List (List Int)) (d6 : List (List Int)) : Option ((Int × (List (Int × (List Int))) × Int × ((List Int) × Int × Int) × Int × Bool × (List (List Int)) × (List (List Int))) ⊕ ((Unit) ⊕ (Bool))) :=
  bif ltI t108 6 then
  bif Nat.beq (List.length d6) (List.length d6) then
  (device_Device_Read_2 t108 d d2 d3 d4 d5 d6).bind fun r =>
  bif neI r.1 0 then
  some (.inr (.inr false))
  else
  winK r.2.2.2.2.2.2.1 0 (List.length r.2.2.2.2.2.2.1) fun w =>
  bif inI t108 6 then
  (sure[t108.toNat]?).bind fun x =>
  bif !(eqS w x) then
  some (.inr (.inr false))
  else
  bif Nat.beq (List.length r.2.2.2.2.2.2.2) (List.length r.2.2.2.2.2.2.2) then
  some (.inl (W64 (t108 + 1), r.2.1, r.2.2.1, r.2.2.2.1, r.2.2.2.2.1, r.2.2.2.2.2.1, sure, r.2.2.2.2.2.2.2))
  else none
  else none
  else none
  else
  some (.inr (.inl ()))
def law03_DeviceAll_l1_1_1_1_1_1_1_1_1_1_1_1_0_1_0n2g (s : Int × (List (Int × (List Int))) × Int × ((List Int) × Int × Int) × Int × Bool × (List (List Int)) × (List (List Int))) : Option ((Int × (List (Int × (List Int))) × Int × ((List Int) × Int × Int) × Int × Bool × (List (List Int)) × (List (List Int))) ⊕ ((Unit) ⊕ (Bool))) := law03_DeviceAll_l1_1_1_1_1_1_1_1_1_1_1_1_0_1_0n2r s.1 s.2.1 s.2.2.1 s.2.2.2.1 s.2.2.2.2.1 s.2.2.2.2.2.1 s.2.2.2.2.2.2.1 s.2.2.2.2.2.2.2
theorem law03_DeviceAll_l1_1_1_1_1_1_1_1_1_1_1_1_0_1_0n2_ok : SoundD Try.prog (.loop (subC (bodyC Try.f4) [1, 1, 1, 1, 1, 1, 1, 1, 1, 1, 1, 1, 0, 1, 0, 0])) (loopD law03_DeviceAll_l1_1_1_1_1_1_1_1_1_1_1_1_0_1_0n2S.xe law03_DeviceAll_l1_1_1_1_1_1_1_1_1_1_1_1_0_1_0n2X (loopC law03_DeviceAll_l1_1_1_1_1_1_1_1_1_1_1_1_0_1_0n2g)) :=
  loop_sound (S := law03_DeviceAll_l1_1_1_1_1_1_1_1_1_1_1_1_0_1_0n2S.xe) (X := law03_DeviceAll_l1_1_1_1_1_1_1_1_1_1_1_1_0_1_0n2X) law03_DeviceAll_env (h := .no) (hok_of [] (by kernel_rfl) trivial) (shp_ok law03_DeviceAll_l1_1_1_1_1_1_1_1_1_1_1_1_0_1_0n2S) law03_DeviceAll_l1_1_1_1_1_1_1_1_1_1_1_1_0_1_0n2X_ok law03_DeviceAll_l1_1_1_1_1_1_1_1_1_1_1_1_0_1_0n2g (fun s => by kernel_rfl)
def law03_DeviceAll_XK0 : Shp := ⟨1, 0, [(0, .d .bool)], []⟩
def law03_DeviceAll_X : XS := .one .ret law03_DeviceAll_XK0.xe
theorem law03_DeviceAll_X_ok : law03_DeviceAll_X.OK := XS.one_ok (shp_ok law03_DeviceAll_XK0)
def law03_DeviceAll (script : List (Int × Int × Int × (List Int) × Bool × ((List Int) × Int × Int))) (all : Bool) : Option ((Bool)) :=
  (law03_lives).bind fun r =>
  bif !r then
  (law03_lives).bind fun r2 =>
  some r2
  else
  (law03_fits 1 script).bind fun r3 =>
  bif !r3 then
  (law03_lives).bind fun r4 =>
  some r4
  else
  (show Option (((List (Int × Int × Int × (List Int) × Bool × ((List Int) × Int × Int))) × Bool) ⊕ ((List (Int × Int × Int × (List Int) × Bool × ((List Int) × Int × Int))) × Bool × (List (Int × (List Int))) × Int × ((List Int) × Int × Int) × Int × Bool × (List (List Int)))) from
  (device_New 6).bind fun r5 =>
  Sum.elim (fun y =>
  some (.inl (script, all))) (fun y2 =>
  bif Nat.beq (List.length y2.2.2.2.2.2.2) (List.length y2.2.2.2.2.2.2) then
  some (.inr (script, all, y2.2.1, y2.2.2.1, y2.2.2.2.1, y2.2.2.2.2.1, y2.2.2.2.2.2.1, y2.2.2.2.2.2.2))
  else none) r5).bind fun j =>
  Sum.elim (fun y3 =>
  (loopC law03_DeviceAll_l1_1_1_1_0_1_0g (y3.1, y3.2, 0, List.replicate 6 ([] : List Int), List.replicate 6 ([] : List Int))).bind fun o =>
  shortK (List.length o.1) (
  bif Nat.beq 0 (List.length ([] : List Int)) then
  (loopC law03_DeviceAll_l1_1_1_1_1_1_1_0_1_0g (o.2.1, o.1, (List.length o.1 : Nat), 0, o.2.2.2, o.2.2.2, (-1), 0, ([] : List Int))).bind fun o2 =>
  Sum.elim (fun y5 =>
  (show Option (((List (List Int)) × Int × Int × (List Int))) from
  bif y5.1 then
  (device_Device_Loose).bind fun r6 =>
  bif Nat.beq (List.length y5.2.2.2.2.2) (List.length y5.2.2.2.2.2) then
  (loopC law03_DeviceAll_l1_1_1_1_1_1_1_1_0_1_0_0_1_0g (r6, 0, y5.2.1, y5.2.2.1, y5.2.2.2.1, y5.2.2.2.2.1, y5.2.2.2.2.2)).bind fun o3 =>
  bif Nat.beq (List.length o3.2.2.2.2) (List.length o3.2.2.2.2) then
  some (o3.2.1, o3.2.2.1, o3.2.2.2.1, o3.2.2.2.2)
  else none
  else none
  else
  bif Nat.beq (List.length y5.2.2.2.2.2) (List.length y5.2.2.2.2.2) then
  some (y5.2.1, y5.2.2.2.1, y5.2.2.2.2.1, y5.2.2.2.2.2)
  else none).bind fun j2 =>
  bif Nat.beq (List.length j2.2.2.2) (List.length j2.2.2.2) then
  (device_Device_Cut_4 j2.2.1 j2.2.2.1 j2.2.2.2).bind fun r7 =>
  (device_Device_Read_4 0).bind fun r8 =>
  bif neI r8.2 6 then
  some false
  else
  (device_Device_On_3).bind fun r9 =>
  (loopC law03_DeviceAll_l1_1_1_1_1_1_1_1_1_1_1_1_0_1_0g (0, j2.1)).bind fun o4 =>
  Sum.elim (fun y7 =>
  some true) (fun y8 =>
  some y8) o4
  else none) (fun y6 =>
  some y6) o2
  else none)) (fun y4 =>
  bif Nat.beq (List.length y4.2.2.2.2.2.2.2) (List.length y4.2.2.2.2.2.2.2) then
  (loopC law03_DeviceAll_l1_1_1_1_0_1_0n2g (y4.1, y4.2.1, 0, y4.2.2.1, y4.2.2.2.1, y4.2.2.2.2.1, y4.2.2.2.2.2.1, y4.2.2.2.2.2.2.1, List.replicate 6 ([] : List Int), List.replicate 6 ([] : List Int), y4.2.2.2.2.2.2.2)).bind fun o5 =>
  shortK (List.length o5.1) (
  bif Nat.beq (List.length o5.2.2.2.2.2.2.2.2.2) (List.length o5.2.2.2.2.2.2.2.2.2) then
  bif Nat.beq 0 (List.length ([] : List Int)) then
  (loopC law03_DeviceAll_l1_1_1_1_1_1_1_0_1_0n2g (o5.2.1, o5.1, (List.length o5.1 : Nat), 0, o5.2.2.1, o5.2.2.2.1, o5.2.2.2.2.1, o5.2.2.2.2.2.1, o5.2.2.2.2.2.2.1, o5.2.2.2.2.2.2.2.2.1, o5.2.2.2.2.2.2.2.2.1, (-1), 0, o5.2.2.2.2.2.2.2.2.2, ([] : List Int))).bind fun o6 =>
  Sum.elim (fun y9 =>
  (show Option (((List (Int × (List Int))) × Int × ((List Int) × Int × Int) × Int × Bool × (List (List Int)) × Int × Int × (List (List Int)) × (List Int))) from
  bif y9.1 then
  winK y9.2.2.2.2.2.2.2.2.2.2.1 0 (List.length y9.2.2.2.2.2.2.2.2.2.2.1) fun w =>
  (device_Device_Loose_2 (w, y9.2.1, y9.2.2.1, y9.2.2.2.1, y9.2.2.2.2.1, y9.2.2.2.2.2.1)).bind fun r10 =>
  bif Nat.beq (List.length y9.2.2.2.2.2.2.2.2.2.2.1) (List.length y9.2.2.2.2.2.2.2.2.2.2.1) then
  bif Nat.beq (List.length y9.2.2.2.2.2.2.2.2.2.2.2) (List.length y9.2.2.2.2.2.2.2.2.2.2.2) then
  (loopC law03_DeviceAll_l1_1_1_1_1_1_1_1_0_1_0_0_1_0n2g (r10, 0, y9.2.1, y9.2.2.1, y9.2.2.2.1, y9.2.2.2.2.1, y9.2.2.2.2.2.1, y9.2.2.2.2.2.2.1, y9.2.2.2.2.2.2.2.1, y9.2.2.2.2.2.2.2.2.1, y9.2.2.2.2.2.2.2.2.2.1, y9.2.2.2.2.2.2.2.2.2.2.1, y9.2.2.2.2.2.2.2.2.2.2.2)).bind fun o7 =>
  bif Nat.beq (List.length o7.2.2.2.2.2.2.2.2.2.1) (List.length o7.2.2.2.2.2.2.2.2.2.1) then
  bif Nat.beq (List.length o7.2.2.2.2.2.2.2.2.2.2) (List.length o7.2.2.2.2.2.2.2.2.2.2) then
  some (o7.1, o7.2.1, o7.2.2.1, o7.2.2.2.1, o7.2.2.2.2.1, o7.2.2.2.2.2.2.1, o7.2.2.2.2.2.2.2.1, o7.2.2.2.2.2.2.2.2.1, o7.2.2.2.2.2.2.2.2.2.1, o7.2.2.2.2.2.2.2.2.2.2)
  else none
  else none
  else none
  else none
  else
  bif Nat.beq (List.length y9.2.2.2.2.2.2.2.2.2.2.1) (List.length y9.2.2.2.2.2.2.2.2.2.2.1) then
  bif Nat.beq (List.length y9.2.2.2.2.2.2.2.2.2.2.2) (List.length y9.2.2.2.2.2.2.2.2.2.2.2) then
  some (y9.2.1, y9.2.2.1, y9.2.2.2.1, y9.2.2.2.2.1, y9.2.2.2.2.2.1, y9.2.2.2.2.2.2.1, y9.2.2.2.2.2.2.2.2.1, y9.2.2.2.2.2.2.2.2.2.1, y9.2.2.2.2.2.2.2.2.2.2.1, y9.2.2.2.2.2.2.2.2.2.2.2)
  else none
  else none).bind fun j3 =>
  bif Nat.beq (List.length j3.2.2.2.2.2.2.2.2.2) (List.length j3.2.2.2.2.2.2.2.2.2) then
  bif Nat.beq (List.length j3.2.2.2.2.2.2.2.2.1) (List.length j3.2.2.2.2.2.2.2.2.1) then
  (device_Device_Cut_3 j3.2.2.2.2.2.2.1 j3.2.2.2.2.2.2.2.1 j3.1 j3.2.1 j3.2.2.1 j3.2.2.2.1 j3.2.2.2.2.1 j3.2.2.2.2.2.2.2.2.2 j3.2.2.2.2.2.2.2.2.1).bind fun r11 =>
  bif Nat.beq (List.length r11.2.2.2.2.2.2) (List.length r11.2.2.2.2.2.2) then
  (device_Device_Read_2 0 r11.1 r11.2.1 r11.2.2.1 r11.2.2.2.1 r11.2.2.2.2.1 r11.2.2.2.2.2.2).bind fun r12 =>
  bif neI r12.1 6 then
  some false
  else
  bif Nat.beq (List.length r12.2.2.2.2.2.2.2) (List.length r12.2.2.2.2.2.2.2) then
  (device_Device_On r12.2.1 r12.2.2.1 r12.2.2.2.1 r12.2.2.2.2.1 r12.2.2.2.2.2.1 r12.2.2.2.2.2.2.2).bind fun r13 =>
  bif Nat.beq (List.length r13.2.2.2.2.2.2) (List.length r13.2.2.2.2.2.2) then
  (loopC law03_DeviceAll_l1_1_1_1_1_1_1_1_1_1_1_1_0_1_0n2g (0, r13.2.1, r13.2.2.1, r13.2.2.2.1, r13.2.2.2.2.1, r13.2.2.2.2.2.1, j3.2.2.2.2.2.1, r13.2.2.2.2.2.2)).bind fun o8 =>
  Sum.elim (fun y11 =>
  some true) (fun y12 =>
  some y12) o8
  else none
  else none
  else none
  else none
  else none) (fun y10 =>
  some y10) o6
  else none
  else none)
  else none) j
def law03_DeviceAll_S : Sig := ⟨4, [.d c5, .d .bool], [], 0, law03_DeviceAll_X⟩
def law03_DeviceAll_fn (x : (List (Int × Int × Int × (List Int) × Bool × ((List Int) × Int × Int))) × Bool) : Option ((Bool)) := law03_DeviceAll x.1 x.2
theorem law03_DeviceAll_ok : FnOK Try.prog law03_DeviceAll_S law03_DeviceAll_fn :=
  fn_ok law03_DeviceAll_env (h := (.two .no (.two .no (.join (fun _ => law03_DeviceAll_j1_1) .no (.two .no (.two (.two .no (.over (altD law03_DeviceAll_l1_1_1_1_0_1_0S.fit (loopD law03_DeviceAll_l1_1_1_1_0_1_0S.xe law03_DeviceAll_l1_1_1_1_0_1_0X (loopC law03_DeviceAll_l1_1_1_1_0_1_0g)) (loopD law03_DeviceAll_l1_1_1_1_0_1_0n2S.xe law03_DeviceAll_l1_1_1_1_0_1_0n2X (loopC law03_DeviceAll_l1_1_1_1_0_1_0n2g))))) (.two .no (.two .no (.two (.two .no (.over (altD law03_DeviceAll_l1_1_1_1_1_1_1_0_1_0S.fit (loopD law03_DeviceAll_l1_1_1_1_1_1_1_0_1_0S.xe law03_DeviceAll_l1_1_1_1_1_1_1_0_1_0X (loopC law03_DeviceAll_l1_1_1_1_1_1_1_0_1_0g)) (loopD law03_DeviceAll_l1_1_1_1_1_1_1_0_1_0n2S.xe law03_DeviceAll_l1_1_1_1_1_1_1_0_1_0n2X (loopC law03_DeviceAll_l1_1_1_1_1_1_1_0_1_0n2g))))) (.join (altX law03_DeviceAll_j1_1_1_1_1_1_1_1E.fit (fun _ => law03_DeviceAll_j1_1_1_1_1_1_1_1) (fun _ => law03_DeviceAll_j1_1_1_1_1_1_1_1n1)) (.two .no (.two (.two (.two .no (.over (altD law03_DeviceAll_l1_1_1_1_1_1_1_1_0_1_0_0_1_0S.fit (loopD law03_DeviceAll_l1_1_1_1_1_1_1_1_0_1_0_0_1_0S.xe law03_DeviceAll_l1_1_1_1_1_1_1_1_0_1_0_0_1_0X (loopC law03_DeviceAll_l1_1_1_1_1_1_1_1_0_1_0_0_1_0g)) (loopD law03_DeviceAll_l1_1_1_1_1_1_1_1_0_1_0_0_1_0n2S.xe law03_DeviceAll_l1_1_1_1_1_1_1_1_0_1_0_0_1_0n2X (loopC law03_DeviceAll_l1_1_1_1_1_1_1_1_0_1_0_0_1_0n2g))))) .no) .no)) (.two .no (.two .no (.two .no (.two (.two .no (.over (altD law03_DeviceAll_l1_1_1_1_1_1_1_1_1_1_1_1_0_1_0S.fit (loopD law03_DeviceAll_l1_1_1_1_1_1_1_1_1_1_1_1_0_1_0S.xe law03_DeviceAll_l1_1_1_1_1_1_1_1_1_1_1_1_0_1_0X (loopC law03_DeviceAll_l1_1_1_1_1_1_1_1_1_1_1_1_0_1_0g)) (loopD law03_DeviceAll_l1_1_1_1_1_1_1_1_1_1_1_1_0_1_0n2S.xe law03_DeviceAll_l1_1_1_1_1_1_1_1_1_1_1_1_0_1_0n2X (loopC law03_DeviceAll_l1_1_1_1_1_1_1_1_1_1_1_1_0_1_0n2g))))) .no)))))))))))))) Try.func4 (hok_of [.xs (fun _ => law03_DeviceAll_j1_1), .den (.loop (subC (bodyC Try.f4) [1, 1, 1, 1, 0, 1, 0, 0])) (altD law03_DeviceAll_l1_1_1_1_0_1_0S.fit (loopD law03_DeviceAll_l1_1_1_1_0_1_0S.xe law03_DeviceAll_l1_1_1_1_0_1_0X (loopC law03_DeviceAll_l1_1_1_1_0_1_0g)) (loopD law03_DeviceAll_l1_1_1_1_0_1_0n2S.xe law03_DeviceAll_l1_1_1_1_0_1_0n2X (loopC law03_DeviceAll_l1_1_1_1_0_1_0n2g))), .den (.loop (subC (bodyC Try.f4) [1, 1, 1, 1, 1, 1, 1, 0, 1, 0, 0])) (altD law03_DeviceAll_l1_1_1_1_1_1_1_0_1_0S.fit (loopD law03_DeviceAll_l1_1_1_1_1_1_1_0_1_0S.xe law03_DeviceAll_l1_1_1_1_1_1_1_0_1_0X (loopC law03_DeviceAll_l1_1_1_1_1_1_1_0_1_0g)) (loopD law03_DeviceAll_l1_1_1_1_1_1_1_0_1_0n2S.xe law03_DeviceAll_l1_1_1_1_1_1_1_0_1_0n2X (loopC law03_DeviceAll_l1_1_1_1_1_1_1_0_1_0n2g))), .xs (altX law03_DeviceAll_j1_1_1_1_1_1_1_1E.fit (fun _ => law03_DeviceAll_j1_1_1_1_1_1_1_1) (fun _ => law03_DeviceAll_j1_1_1_1_1_1_1_1n1)), .den (.loop (subC (bodyC Try.f4) [1, 1, 1, 1, 1, 1, 1, 1, 0, 1, 0, 0, 1, 0, 0])) (altD law03_DeviceAll_l1_1_1_1_1_1_1_1_0_1_0_0_1_0S.fit (loopD law03_DeviceAll_l1_1_1_1_1_1_1_1_0_1_0_0_1_0S.xe law03_DeviceAll_l1_1_1_1_1_1_1_1_0_1_0_0_1_0X (loopC law03_DeviceAll_l1_1_1_1_1_1_1_1_0_1_0_0_1_0g)) (loopD law03_DeviceAll_l1_1_1_1_1_1_1_1_0_1_0_0_1_0n2S.xe law03_DeviceAll_l1_1_1_1_1_1_1_1_0_1_0_0_1_0n2X (loopC law03_DeviceAll_l1_1_1_1_1_1_1_1_0_1_0_0_1_0n2g))), .den (.loop (subC (bodyC Try.f4) [1, 1, 1, 1, 1, 1, 1, 1, 1, 1, 1, 1, 0, 1, 0, 0])) (altD law03_DeviceAll_l1_1_1_1_1_1_1_1_1_1_1_1_0_1_0S.fit (loopD law03_DeviceAll_l1_1_1_1_1_1_1_1_1_1_1_1_0_1_0S.xe law03_DeviceAll_l1_1_1_1_1_1_1_1_1_1_1_1_0_1_0X (loopC law03_DeviceAll_l1_1_1_1_1_1_1_1_1_1_1_1_0_1_0g)) (loopD law03_DeviceAll_l1_1_1_1_1_1_1_1_1_1_1_1_0_1_0n2S.xe law03_DeviceAll_l1_1_1_1_1_1_1_1_1_1_1_1_0_1_0n2X (loopC law03_DeviceAll_l1_1_1_1_1_1_1_1_1_1_1_1_0_1_0n2g)))] (by kernel_rfl) ⟨(oneX_ok law03_DeviceAll_j1_1_ok), (altD_ok law03_DeviceAll_l1_1_1_1_0_1_0_ok law03_DeviceAll_l1_1_1_1_0_1_0n2_ok), (altD_ok law03_DeviceAll_l1_1_1_1_1_1_1_0_1_0_ok law03_DeviceAll_l1_1_1_1_1_1_1_0_1_0n2_ok), (altX_ok (oneX_ok law03_DeviceAll_j1_1_1_1_1_1_1_1_ok) (oneX_ok law03_DeviceAll_j1_1_1_1_1_1_1_1n1_ok)), (altD_ok law03_DeviceAll_l1_1_1_1_1_1_1_1_0_1_0_0_1_0_ok law03_DeviceAll_l1_1_1_1_1_1_1_1_0_1_0_0_1_0n2_ok), (altD_ok law03_DeviceAll_l1_1_1_1_1_1_1_1_1_1_1_1_0_1_0_ok law03_DeviceAll_l1_1_1_1_1_1_1_1_1_1_1_1_0_1_0n2_ok), trivial⟩) (by kernel_rfl) law03_DeviceAll_X_ok (fun x => by kernel_rfl)

end Go.Proofs.Ytamfpgmpofncoaa

/- Devices: a cut that keeps all, and one that keeps nothing. -/
set_option maxRecDepth 100000
set_option linter.unusedSimpArgs false
set_option linter.unusedVariables false
namespace Go.Proofs.Ytamfpgmpofncoaa
open Go.Tm Go.Ab

theorem full2_loop (c : Int) (t : List Int) (m : Nat) (hm : m < 1000000) : loopC law03_full_2_l1_1_0_1_0g (c, t, (m : Int), 0, List.replicate m 0) = some (t, List.replicate m c) := by
  have := loop_run law03_full_2_l1_1_0_1_0g (fun i => (c, t, (m : Int), (i : Int), List.replicate i c ++ List.replicate (m - i) (0 : Int))) (fun _ => (t, List.replicate m c)) m ?_ ?_
  · simpa using this
  · unfold law03_full_2_l1_1_0_1_0g law03_full_2_l1_1_0_1_0r
    rw [ltI_f (by simp), beq_self]
    simp
  · intro i hi
    refine .inl ⟨?_, rfl⟩
    unfold law03_full_2_l1_1_0_1_0g law03_full_2_l1_1_0_1_0r
    have hl : (List.replicate i c ++ List.replicate (m - i) (0 : Int)).length = m := by simp; omega
    have hset : (List.replicate i c ++ List.replicate (m - i) (0 : Int)).set i c = List.replicate (i + 1) c ++ List.replicate (m - (i + 1)) 0 := by
      rw [List.set_append_right _ _ (by simp), List.length_replicate, Nat.sub_self, show m - i = (m - (i + 1)) + 1 by omega, List.replicate_succ, List.set_cons_zero, List.replicate_succ' (n := i), List.append_assoc]
      rfl
    have hget : (List.replicate i c ++ List.replicate (m - i) (0 : Int))[i]? = some 0 := by
      rw [List.getElem?_append_right (by simp), List.length_replicate, Nat.sub_self, show m - i = (m - (i + 1)) + 1 by omega, List.replicate_succ]; rfl
    have hset2 : (List.replicate (i + 1) c ++ List.replicate (m - (i + 1)) (0 : Int)).length = m := by simp; omega
    simp only [Int.toNat_natCast, hl, hset, hset2, hget, Option.bind_some]
    rw [ltI_t (by omega), inI_t (by omega), W64_in (by omega), beq_self]
    rfl

theorem full2_is (c : Int) (t : List Int) : law03_full_2 c t = some (fullS c t) := by
  unfold law03_full_2
  have h0 := full2_loop c t 256 (by omega)
  rw [show ((256 : Nat) : Int) = 256 from rfl] at h0
  have e : cpyL (List.replicate 256 c) 0 256 t = fullS c t := by
    have := cpy_all (List.replicate 256 c) t
    rw [List.length_replicate] at this
    rw [this, fullS, List.drop_replicate]
  have hl : 256 = (fullS c t).length := by unfold fullS; rw [List.length_append, List.length_take, List.length_replicate]; omega
  rw [h0]
  simp only [Option.bind_some, List.length_replicate]
  rw [e, ← hl, beq_self, ble_self]
  rfl

theorem cut3_loop (loose : List (Int × List Int)) (d2 : Int) (d3 : List Int × Int × Int) (d4 : Int) (d5 : Bool) (d : List (Int × List Int)) (c : List Int × Int × Int) (hl : loose.length < 1000000) (hc : c.1.length < 1000000) :
    ∀ (k i : Nat) (sure : List (List Int)), i + k = loose.length → OkD loose sure →
      loopC device_Device_Cut_3_l1_1_0_1_0g (loose, (loose.length : Nat), (i : Int), d, d2, d3, d4, d5, c.1, c.2.1, c.2.2, sure) = some (d, d2, d3, d4, d5, c.1, cutS c (loose.drop i) i sure)
  | 0, i, sure, h, ok => by
    rw [loopC_eq, show device_Device_Cut_3_l1_1_0_1_0g (loose, (loose.length : Nat), (i : Int), d, d2, d3, d4, d5, c.1, c.2.1, c.2.2, sure) = device_Device_Cut_3_l1_1_0_1_0r loose (loose.length : Nat) (i : Int) d d2 d3 d4 d5 c.1 c.2.1 c.2.2 sure from rfl]
    unfold device_Device_Cut_3_l1_1_0_1_0r
    rw [ltI_f (by simp; omega), List.drop_eq_nil_of_le (by omega)]
    simp only [beq_self, cond_true, cond_false, Option.bind_some, Sum.elim_inr, cutS]
  | k + 1, i, sure, h, ok => by
    have hi : i < loose.length := by omega
    have hw := ok.w _ (List.getElem_mem hi)
    have hlt : loose[i].1.toNat < sure.length := by omega
    have hsl := ok.s _ (List.getElem_mem hlt)
    have ht := tornN_in c i
    rw [loopC_eq, show device_Device_Cut_3_l1_1_0_1_0g (loose, (loose.length : Nat), (i : Int), d, d2, d3, d4, d5, c.1, c.2.1, c.2.2, sure) = device_Device_Cut_3_l1_1_0_1_0r loose (loose.length : Nat) (i : Int) d d2 d3 d4 d5 c.1 c.2.1 c.2.2 sure from rfl]
    unfold device_Device_Cut_3_l1_1_0_1_0r
    rw [ltI_t (by omega), idx_at, List.getElem?_eq_getElem hi]
    simp only [Option.bind_some, cond_true, beq_self]
    rw [win_all _ _ rfl, contains_is _ _ hc]
    simp only [Option.bind_some, cond_true, beq_self]
    have hj : (bif decide ((i : Int) ∈ c.1) then some ((256 : Int), loose, ((loose.length : Nat) : Int), (i : Int), d, d2, d3, d4, d5, c.1, c.2.1, c.2.2, loose[i], sure)
        else bif eqI c.2.1 i then some (maxI 0 (minI c.2.2 256), loose, ((loose.length : Nat) : Int), (i : Int), d, d2, d3, d4, d5, c.1, c.2.1, c.2.2, loose[i], sure)
        else some (0, loose, ((loose.length : Nat) : Int), (i : Int), d, d2, d3, d4, d5, c.1, c.2.1, c.2.2, loose[i], sure)) = some (tornN c i, loose, ((loose.length : Nat) : Int), (i : Int), d, d2, d3, d4, d5, c.1, c.2.1, c.2.2, loose[i], sure) := by
      unfold tornN
      by_cases h1 : (i : Int) ∈ c.1
      · simp [h1]
      · by_cases h2 : c.2.1 = (i : Int)
        · simp [h1, h2, eqI]
        · simp [h1, h2, eqI]
    rw [hj]
    simp only [Option.bind_some]
    rw [inI_t (by omega), List.getElem?_eq_getElem hlt]
    simp only [Option.bind_some, cond_true]
    rw [show subOk 0 (tornN c i) 256 = true by simp [subOk, leI]; omega, win_all _ _ hw.2.2.symm]
    simp only [cond_true]
    have hcp : cpyL sure[loose[i].1.toNat] 0 (tornN c i).toNat loose[i].2 = loose[i].2.take (tornN c i).toNat ++ sure[loose[i].1.toNat].drop (tornN c i).toNat := by
      unfold cpyL
      rw [Nat.min_eq_right (by omega)]
      simp
    have hput : sure.set loose[i].1.toNat (loose[i].2.take (tornN c i).toNat ++ sure[loose[i].1.toNat].drop (tornN c i).toNat) = putS sure loose[i] (tornN c i).toNat := by
      unfold putS; rw [List.getElem?_eq_getElem hlt, Option.getD_some]
    rw [show Nat.ble (tornN c i).toNat sure[loose[i].1.toNat].length = true from Nat.ble_eq.mpr (by omega), hcp, hput, putS_len, beq_self]
    simp only [cond_true, Option.bind_some, Sum.elim_inl, beq_self]
    rw [W64_in (by omega), show ((i : Int) + 1) = ((i + 1 : Nat) : Int) by simp, cut3_loop loose d2 d3 d4 d5 d c hl hc k (i + 1) _ (by omega)
      ⟨putS_ok ok.s hw.1 hw.2.1 hw.2.2 (by omega), fun w hm => by rw [putS_len]; exact ok.w w hm⟩, List.drop_eq_getElem_cons hi]
    rfl

theorem cut3_is (c : List Int × Int × Int) (x : DevT) (h : OkDev x) (hc : c.1.length < 1000000) :
    device_Device_Cut_3 c.2.1 c.2.2 x.1 x.2.1 x.2.2.1 x.2.2.2.1 x.2.2.2.2.1 c.1 x.2.2.2.2.2 = some ((fun y : DevT => (y.1, y.2.1, y.2.2.1, y.2.2.2.1, y.2.2.2.2.1, c.1, y.2.2.2.2.2)) (cutD c x)) := by
  have hl := h.l
  have hd := h.d
  obtain ⟨l, d2, d3, d4, off, s⟩ := x
  simp only at hl hd
  unfold device_Device_Cut_3 device_Device_Off cutD
  rw [win_all _ _ rfl]
  simp only [Option.bind_some, beq_self, cond_true]
  cases off with
  | true => rfl
  | false =>
    simp only [cond_false, Bool.false_eq_true, if_false]
    rw [short_ok (by omega)]
    have := cut3_loop l d2 d3 d4 false l c (by omega) hc l.length 0 s (by omega) hd
    rw [show ((0 : Nat) : Int) = 0 from rfl] at this
    rw [this]
    simp only [Option.bind_some, beq_self, cond_true, List.drop_zero]

theorem all_init (script : List OpT) (all : Bool) (x : DevT) :
    loopC law03_DeviceAll_l1_1_1_1_0_1_0n2g (script, all, 0, x.1, x.2.1, x.2.2.1, x.2.2.2.1, x.2.2.2.2.1, List.replicate 6 [], List.replicate 6 [], x.2.2.2.2.2) = some (script, all, x.1, x.2.1, x.2.2.1, x.2.2.2.1, x.2.2.2.2.1, List.replicate 6 [], List.replicate 6 sec0, x.2.2.2.2.2) := by
  have := loop_run law03_DeviceAll_l1_1_1_1_0_1_0n2g (fun i => (script, all, (i : Int), x.1, x.2.1, x.2.2.1, x.2.2.2.1, x.2.2.2.2.1, List.replicate 6 ([] : List Int), List.replicate i sec0 ++ List.replicate (6 - i) ([] : List Int), x.2.2.2.2.2))
    (fun _ => (script, all, x.1, x.2.1, x.2.2.1, x.2.2.2.1, x.2.2.2.2.1, List.replicate 6 ([] : List Int), List.replicate 6 sec0, x.2.2.2.2.2)) 6 ?_ ?_
  · simpa using this
  · show law03_DeviceAll_l1_1_1_1_0_1_0n2r script all ((6 : Nat) : Int) x.1 x.2.1 x.2.2.1 x.2.2.2.1 x.2.2.2.2.1 _ (List.replicate 6 sec0 ++ List.replicate (6 - 6) []) x.2.2.2.2.2 = _
    unfold law03_DeviceAll_l1_1_1_1_0_1_0n2r
    rw [ltI_f (by simp), beq_self]
    simp
  · intro i hi
    refine .inl ⟨?_, rfl⟩
    show law03_DeviceAll_l1_1_1_1_0_1_0n2r script all (i : Int) x.1 x.2.1 x.2.2.1 x.2.2.2.1 x.2.2.2.2.1 _ (List.replicate i sec0 ++ List.replicate (6 - i) []) x.2.2.2.2.2 = _
    unfold law03_DeviceAll_l1_1_1_1_0_1_0n2r
    have hset : (List.replicate i sec0 ++ List.replicate (6 - i) ([] : List Int)).set i sec0 = List.replicate (i + 1) sec0 ++ List.replicate (6 - (i + 1)) [] := by
      rw [List.set_append_right _ _ (by simp), List.length_replicate, Nat.sub_self, show 6 - i = (6 - (i + 1)) + 1 by omega, List.replicate_succ, List.set_cons_zero, List.replicate_succ' (n := i), List.append_assoc]
      rfl
    have hget : (List.replicate i sec0 ++ List.replicate (6 - i) ([] : List Int))[i]? = some [] := by
      rw [List.getElem?_append_right (by simp), List.length_replicate, Nat.sub_self, show 6 - i = (6 - (i + 1)) + 1 by omega, List.replicate_succ]; rfl
    rw [ltI_t (by omega), win_all _ _ (by rw [List.length_replicate])]
    rw [show List.replicate 256 (0 : Int) = sec0 from rfl]
    simp only [Int.toNat_natCast, hset, hget, Option.bind_some, beq_self, cond_true]
    rw [inI_t (by omega), W64_in (by omega)]
    rfl

def AllInv (all : Bool) (script : List OpT) (i : Nat) (s : Bool × List OpT × Int × Int × (List (Int × (List Int))) × Int × ((List Int) × Int × Int) × Int × Bool × (List (List Int)) × (List (List Int)) × Int × Int × (List (List Int)) × List Int) : Prop :=
  ∃ (x : DevT) (now : List (List Int)), Fine 6 (2 * i) x now ∧ x.1.length ≤ i ∧ s = (all, script, ((script.length : Nat) : Int), (i : Int), x.1, x.2.1, x.2.2.1, x.2.2.2.1, x.2.2.2.2.1, x.2.2.2.2.2, now, -1, 0, x.2.2.2.2.2, [])

theorem all_step {all : Bool} {script : List OpT} (hs : script.length ≤ 60) (hf : ∀ o, o ∈ script → fitO o) {i : Nat} (hi : i < script.length) {s} (h : AllInv all script i s) :
    ∃ s', law03_DeviceAll_l1_1_1_1_1_1_1_0_1_0n2g s = some (.inl s') ∧ AllInv all script (i + 1) s' := by
  obtain ⟨x, now, h, hlo, rfl⟩ := h
  have ok := h.ok (by omega) (by omega)
  have hl := h.len
  have ho := hf _ (List.getElem_mem hi)
  show ∃ s', law03_DeviceAll_l1_1_1_1_1_1_1_0_1_0n2r all script (script.length : Nat) (i : Int) x.1 x.2.1 x.2.2.1 x.2.2.2.1 x.2.2.2.2.1 x.2.2.2.2.2 now (-1) 0 x.2.2.2.2.2 [] = some (.inl s') ∧ AllInv all script (i + 1) s'
  unfold law03_DeviceAll_l1_1_1_1_1_1_1_0_1_0n2r
  rw [ltI_t (by omega), idx_in hi]
  simp only [Option.bind_some, cond_true]
  generalize script[i] = o at ho ⊢
  obtain ⟨p0, p1⟩ := place_in o.2.1 6 (by omega)
  rw [short_ok (by have := ho.1; omega), minI_sub, full2_is]
  simp only [Option.bind_some, cond_true, cond_false, beq_self]
  rw [show fullS o.2.2.1 (subL o.2.2.2.1 0 (minI (List.length o.2.2.2.1 : Nat) 256)) = bytesO o from rfl]
  generalize W64 ((WU64 o.2.1).tmod 6) = p at p0 p1 ⊢
  have hb := bytesO_len o
  generalize bytesO o = b at hb ⊢
  obtain ⟨y, e1, e2, e3, e4, e5⟩ := h.write ⟨p0, p1⟩ hb
  rw [write4_y p b x ok (by omega), e1]
  have e6 : y.1.length = x.1.length + 1 := by rw [e3]; simp
  simp only [Option.bind_some, neI_f rfl, cond_false]
  rw [win_all _ _ rfl, inI_t (by omega), List.getElem?_eq_getElem (show p.toNat < now.length by omega)]
  simp only [Option.bind_some, cond_true, beq_self]
  have ok2 := e2.ok (by omega) (by omega)
  by_cases hm : (i : Int).tmod 7 = 6
  · rw [eqI_t hm, barrier_x y ok2]
    obtain ⟨z, f1, f2, f3, f4, f5⟩ := e2.barrier
    rw [f1]
    simp only [Option.bind_some, cond_true, neI_f rfl, cond_false, beq_self]
    refine ⟨_, rfl, z, now.set p.toNat b, f2, by rw [f3]; exact Nat.zero_le _, ?_⟩
    rw [W64_in (by omega), f5]; rfl
  · rw [eqI_f hm]
    simp only [cond_false]
    refine ⟨_, rfl, y, now.set p.toNat b, e2.mono (by omega), by omega, ?_⟩
    rw [W64_in (by omega), e5]; rfl

def range (n : Nat) : List Int := (List.range n).map fun i : Nat => (i : Int)

theorem kept_loop (n : Nat) (hn : n ≤ 60) (x : DevT) (sure now : List (List Int)) (c c2 : Int) :
    loopC law03_DeviceAll_l1_1_1_1_1_1_1_1_0_1_0_0_1_0n2g ((n : Int), 0, x.1, x.2.1, x.2.2.1, x.2.2.2.1, x.2.2.2.2.1, sure, now, c, c2, x.2.2.2.2.2, []) = some (x.1, x.2.1, x.2.2.1, x.2.2.2.1, x.2.2.2.2.1, sure, now, c, c2, x.2.2.2.2.2, range n) := by
  have := loop_run law03_DeviceAll_l1_1_1_1_1_1_1_1_0_1_0_0_1_0n2g (fun i => ((n : Int), (i : Int), x.1, x.2.1, x.2.2.1, x.2.2.2.1, x.2.2.2.2.1, sure, now, c, c2, x.2.2.2.2.2, range i))
    (fun _ => (x.1, x.2.1, x.2.2.1, x.2.2.2.1, x.2.2.2.2.1, sure, now, c, c2, x.2.2.2.2.2, range n)) n ?_ ?_
  · exact this
  · show law03_DeviceAll_l1_1_1_1_1_1_1_1_0_1_0_0_1_0n2r (n : Int) (n : Int) x.1 x.2.1 x.2.2.1 x.2.2.2.1 x.2.2.2.2.1 sure now c c2 x.2.2.2.2.2 (range n) = _
    unfold law03_DeviceAll_l1_1_1_1_1_1_1_1_0_1_0_0_1_0n2r
    rw [ltI_f (by omega), beq_self, beq_self]; rfl
  · intro i hi
    refine .inl ⟨?_, rfl⟩
    show law03_DeviceAll_l1_1_1_1_1_1_1_1_0_1_0_0_1_0n2r (n : Int) (i : Int) x.1 x.2.1 x.2.2.1 x.2.2.2.1 x.2.2.2.2.1 sure now c c2 x.2.2.2.2.2 (range i) = _
    unfold law03_DeviceAll_l1_1_1_1_1_1_1_1_0_1_0_0_1_0n2r
    have hl : (range i).length = i := by simp [range]
    rw [ltI_t (by omega), beq_self, app_ok (by rw [hl]; simp; omega), beq_self, beq_self, W64_in (by omega)]
    simp only [cond_true]
    rw [show range i ++ [(i : Int)] = range (i + 1) by simp [range, List.range_succ]]
    rfl

theorem all_reads {m : Nat} {x : DevT} {last : List (List Int)} (h : Fine 6 m x last) (hm : m ≤ 1000) :
    loopC law03_DeviceAll_l1_1_1_1_1_1_1_1_1_1_1_1_0_1_0n2g (0, x.1, x.2.1, x.2.2.1, x.2.2.2.1, x.2.2.2.2.1, last, x.2.2.2.2.2) = some (.inl ()) := by
  have ok := h.ok (by omega) (by omega)
  have := loop_run law03_DeviceAll_l1_1_1_1_1_1_1_1_1_1_1_1_0_1_0n2g (fun i => ((i : Int), x.1, x.2.1, x.2.2.1, x.2.2.2.1, x.2.2.2.2.1, last, x.2.2.2.2.2)) (fun _ => .inl ()) 6 ?_ ?_
  · exact this
  · show law03_DeviceAll_l1_1_1_1_1_1_1_1_1_1_1_1_0_1_0n2r ((6 : Nat) : Int) x.1 x.2.1 x.2.2.1 x.2.2.2.1 x.2.2.2.2.1 last x.2.2.2.2.2 = _
    unfold law03_DeviceAll_l1_1_1_1_1_1_1_1_1_1_1_1_0_1_0n2r
    rw [ltI_f (by omega)]; rfl
  · intro i hi
    refine .inl ⟨?_, rfl⟩
    show law03_DeviceAll_l1_1_1_1_1_1_1_1_1_1_1_1_0_1_0n2r (i : Int) x.1 x.2.1 x.2.2.1 x.2.2.2.1 x.2.2.2.2.1 last x.2.2.2.2.2 = _
    unfold law03_DeviceAll_l1_1_1_1_1_1_1_1_1_1_1_1_0_1_0n2r
    obtain ⟨b, h1, h2⟩ := h.read hi
    rw [ltI_t (by omega), beq_self, read_y _ _ ok, h2]
    simp only [Option.bind_some, cond_true, cond_false, neI_f rfl, Int.toNat_natCast, h1]
    rw [win_all _ _ rfl, inI_t (by omega), eqS_t rfl, beq_self, W64_in (by omega)]
    rfl

theorem cut_fine {m : Nat} {x : DevT} {now : List (List Int)} (h : Fine 6 m x now) (c : List Int × Int × Int) {want : List (List Int)} (hw : cutS c x.1 0 x.2.2.2.2.2 = want) : cutD c x = ([], -1, x.2.2.1, x.2.2.2.1, true, want) ∧ Fine 6 m ([], -1, x.2.2.1, x.2.2.2.1, false, want) want := by
  have hlen : want.length = 6 := by rw [← hw, cutS_len, h.s]
  refine ⟨by unfold cutD; rw [h.off, if_neg (by simp), hw], ⟨⟨?_, fun w hw => by cases hw⟩, by have := h.ch; simp; omega, rfl, h.c, h.ch, rfl, hlen, hlen, fun k hk => ?_⟩⟩
  · have key : ∀ (l : List (Int × List Int)) (k : Nat) (s : List (List Int)), OkD l s → ∀ y, y ∈ cutS c l k s → y.length = 256 := by
      intro l
      induction l with
      | nil => intro k s ok; exact ok.s
      | cons w ws ih =>
        intro k s ok
        have hw := ok.w w (by simp)
        have ht := tornN_in c k
        exact ih (k + 1) _ ⟨putS_ok ok.s hw.1 hw.2.1 hw.2.2 (by omega), fun v hv => by rw [putS_len]; exact ok.w v (by simp [hv])⟩
    intro y hy
    rw [← hw] at hy
    exact key _ _ _ h.d y hy
  · rw [List.getElem?_eq_getElem (by omega)]; rfl

theorem all_true (script : List OpT) (all : Bool) (hl : script.length ≤ 9223372036854775807) (hs : ∀ o, o ∈ script → o.2.2.2.1.length ≤ 9223372036854775807 ∧ o.2.2.2.2.2.1.length ≤ 9223372036854775807) : law03_DeviceAll script all = some true := by
  unfold law03_DeviceAll
  rw [lives_is]
  simp only [Option.bind_some, Bool.not_true, cond_false]
  rcases fits_is 1 script hl hs with ⟨h1, _, _, h4, h5⟩ | h1
  · rw [h1]
    simp only [Option.bind_some, Bool.not_true, cond_false]
    rw [new_is 6 (by omega), show (6 : Int).toNat = 6 from rfl]
    have h0 := Fine.new 6
    simp only [Option.bind_some, Sum.elim_inr, beq_self, cond_true]
    rw [all_init script all (newD 6)]
    simp only [Option.bind_some, cond_true, beq_self]
    rw [short_ok (by omega), show Nat.beq 0 (List.length ([] : List Int)) = true from rfl]
    simp only [cond_true]
    have hlast : ∀ s, AllInv all script script.length s → ∃ r, law03_DeviceAll_l1_1_1_1_1_1_1_0_1_0n2g s = some (.inr r) ∧ ∃ (x : DevT) (now : List (List Int)), Fine 6 (2 * script.length) x now ∧ x.1.length ≤ script.length ∧ r = .inl (all, x.1, x.2.1, x.2.2.1, x.2.2.2.1, x.2.2.2.2.1, x.2.2.2.2.2, now, -1, 0, x.2.2.2.2.2, []) := by
      rintro s ⟨x, now, h, h', rfl⟩
      refine ⟨_, ?_, x, now, h, h', rfl⟩
      show law03_DeviceAll_l1_1_1_1_1_1_1_0_1_0n2r all script (script.length : Nat) (script.length : Nat) x.1 x.2.1 x.2.2.1 x.2.2.2.1 x.2.2.2.2.1 x.2.2.2.2.2 now (-1) 0 x.2.2.2.2.2 [] = _
      unfold law03_DeviceAll_l1_1_1_1_1_1_1_0_1_0n2r
      rw [ltI_f (by omega), beq_self, beq_self]; rfl
    obtain ⟨r, g1, x, now, g2, g4, g3⟩ := loop_inv law03_DeviceAll_l1_1_1_1_1_1_1_0_1_0n2g script.length (AllInv all script) _ hlast
      (fun i s hi h => .inl (all_step h4 h5 hi h)) ⟨newD 6, _, h0, Nat.zero_le _, rfl⟩
    refine (congrArg (fun z => Option.bind z _) g1).trans ?_
    rw [g3]
    simp only [Option.bind_some, Sum.elim_inl]
    have fin : ∀ (c : List Int × Int × Int) (want : List (List Int)), c.1.length ≤ 1000 → cutS c x.1 0 x.2.2.2.2.2 = want →
        ((device_Device_Cut_3 c.2.1 c.2.2 x.1 x.2.1 x.2.2.1 x.2.2.2.1 x.2.2.2.2.1 c.1 x.2.2.2.2.2).bind fun r11 =>
        (device_Device_Read_2 0 r11.1 r11.2.1 r11.2.2.1 r11.2.2.2.1 r11.2.2.2.2.1 r11.2.2.2.2.2.2).bind fun r12 =>
        bif neI r12.1 6 then
        some false
        else
        (device_Device_On r12.2.1 r12.2.2.1 r12.2.2.2.1 r12.2.2.2.2.1 r12.2.2.2.2.2.1 r12.2.2.2.2.2.2.2).bind fun r13 =>
        (loopC law03_DeviceAll_l1_1_1_1_1_1_1_1_1_1_1_1_0_1_0n2g (0, r13.2.1, r13.2.2.1, r13.2.2.2.1, r13.2.2.2.2.1, r13.2.2.2.2.2.1, want, r13.2.2.2.2.2.2)).bind fun o8 =>
        Sum.elim (fun y11 =>
        some true) (fun y12 =>
        some y12) o8
        ) = some true := fun c want hc hw => by
      have ok := g2.ok (by omega) (by omega)
      obtain ⟨k1, k2⟩ := cut_fine g2 c hw
      have ok2 : OkDev ([], -1, x.2.2.1, x.2.2.2.1, true, want) := by rw [← k1]; exact cutD_ok ok
      rw [cut3_is c x ok (by omega), k1]
      simp only [Option.bind_some, beq_self, cond_true]
      have hr := read_is 0 [] (-1) x.2.2.1 x.2.2.2.1 true want ok2
      rw [show (readD ([], -1, x.2.2.1, x.2.2.2.1, true, want) 0) = (6, []) from rfl] at hr
      rw [hr]
      simp only [Option.bind_some, beq_self, cond_true, neI_f rfl, cond_false]
      rw [on_is]
      simp only [Option.bind_some, beq_self, cond_true]
      have := all_reads k2 (by omega)
      simp only at this
      rw [this]; rfl
    cases all with
    | true =>
      simp only [cond_true]
      rw [win_all _ _ rfl, show ∀ y : List (List Int) × List (Int × List Int) × Int × (List Int × Int × Int) × Int × Bool, device_Device_Loose_2 y = shortK (List.length y.2.1) (some ((List.length y.2.1 : Nat) : Int)) from fun _ => rfl]
      simp only
      rw [short_ok (by omega)]
      simp only [Option.bind_some, beq_self, cond_true]
      rw [kept_loop x.1.length (by omega) x]
      simp only [Option.bind_some, beq_self, cond_true]
      refine fin (range x.1.length, -1, 0) now (by simp [range]; omega) ?_
      rw [cutS_all _ _ _ _ g2.d (fun j _ hj => by simp only [range, List.mem_map, List.mem_range]; exact ⟨j, by omega, rfl⟩), g2.sure_now]
    | false =>
      simp only [cond_false, Option.bind_some, beq_self, cond_true]
      exact fin ([], -1, 0) x.2.2.2.2.2 (by simp) (cutS_none _ rfl rfl _ _ _ g2.d)
  · rw [h1]; rfl

end Go.Proofs.Ytamfpgmpofncoaa
