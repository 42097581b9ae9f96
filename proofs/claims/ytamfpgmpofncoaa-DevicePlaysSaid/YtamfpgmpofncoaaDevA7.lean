import Derived.Test.YtamfpgmpofncoaaDevAto
/- Typed functions of Go functions, printed by tm2.py; each is what the typed machine comes to. -/
set_option maxRecDepth 100000
set_option linter.unusedVariables false
noncomputable section
namespace Go.Proofs.Ytamfpgmpofncoaa
open Go.Tm Go.Ab

/- (*device.Device).Read -/
def device_Device_Read_3_V : Env := ⟨[(entQ device_Device_may_3_S device_Device_may_3_fn)], [], []⟩
theorem device_Device_Read_3_env : EnvsOK Try.prog device_Device_Read_3_V := ⟨env_cons (entQ_ok device_Device_may_3_ok) (env_nil _), fenv_nil _, denv_nil _⟩
def device_Device_Read_3_XK0 : Shp := ⟨1, 0, [(0, .tu [.d (.sl (.int .u8)), .d (.int .i64)])], []⟩
def device_Device_Read_3_X : XS := .one .ret device_Device_Read_3_XK0.xe
theorem device_Device_Read_3_X_ok : device_Device_Read_3_X.OK := XS.one_ok (shp_ok device_Device_Read_3_XK0)
def device_Device_Read_3 (i : Int) : Option (((List Int) × Int)) :=
  (device_Device_may_3 i).bind fun r =>
  bif neI r 0 then
  some ([], r)
  else
  none
def device_Device_Read_3_S : Sig := ⟨17, [.c .nilp, .d (.int .i64)], [], 0, device_Device_Read_3_X⟩
def device_Device_Read_3_fn (x : Int) : Option (((List Int) × Int)) := device_Device_Read_3 x
theorem device_Device_Read_3_ok : FnOK Try.prog device_Device_Read_3_S device_Device_Read_3_fn :=
  fn_ok device_Device_Read_3_env (h := .no) Try.func17 (hok_of [] (by kernel_rfl) trivial) (by kernel_rfl) device_Device_Read_3_X_ok (fun x => by kernel_rfl)

/- (*device.Device).Write -/
def device_Device_Write_2_V : Env := ⟨[(entQ device_Device_may_3_S device_Device_may_3_fn)], [], []⟩
theorem device_Device_Write_2_env : EnvsOK Try.prog device_Device_Write_2_V := ⟨env_cons (entQ_ok device_Device_may_3_ok) (env_nil _), fenv_nil _, denv_nil _⟩
def device_Device_Write_2_XK0 : Shp := ⟨1, 0, [(0, .d (.int .i64))], []⟩
def device_Device_Write_2_X : XS := .one .ret device_Device_Write_2_XK0.xe
theorem device_Device_Write_2_X_ok : device_Device_Write_2_X.OK := XS.one_ok (shp_ok device_Device_Write_2_XK0)
def device_Device_Write_2 (i : Int) (b : List Int) : Option ((Int)) :=
  (device_Device_may_3 i).bind fun r =>
  bif neI r 0 then
  some r
  else
  shortK (List.length b) (
  bif neI (List.length b : Nat) 256 then
  some 1
  else
  bif Nat.ble 256 (List.length (List.replicate 256 (0 : Int))) then
  none
  else none)
def device_Device_Write_2_S : Sig := ⟨13, [.c .nilp, .d (.int .i64), .d (.sl (.int .u8))], [], 0, device_Device_Write_2_X⟩
def device_Device_Write_2_fn (x : Int × (List Int)) : Option ((Int)) := device_Device_Write_2 x.1 x.2
theorem device_Device_Write_2_ok : FnOK Try.prog device_Device_Write_2_S device_Device_Write_2_fn :=
  fn_ok device_Device_Write_2_env (h := .no) Try.func13 (hok_of [] (by kernel_rfl) trivial) (by kernel_rfl) device_Device_Write_2_X_ok (fun x => by kernel_rfl)

/- wardshipref03.New -/
def ref03_New_V : Env := ⟨[], [], []⟩
theorem ref03_New_env : EnvsOK Try.prog ref03_New_V := ⟨env_nil _, fenv_nil _, denv_nil _⟩
def ref03_New_l1_1_1_0_1_0XK0 : Shp := ⟨19, 0, [(2, .pt 0 (.one (.st (.cons .leaf (.cons .leaf (.cons .leaf (.cons (.st (.cons .leaf (.cons .leaf (.one .leaf)))) (.cons .leaf (.one .leaf)))))))) []), (4, .wn 1 .str)], [.var 52 (.ag [.wn 2 .str, .wn 3 c6, .d (.int .i64), .ag [.wn 4 (.int .i64), .d (.int .i64), .d (.int .i64)], .d (.int .i64), .d .bool]), .row 9 .str, .row 9 .str, .row 77 c6, .row 3 (.int .i64)]⟩
def ref03_New_l1_1_1_0_1_0X : XS := .one (.exit 0) ref03_New_l1_1_1_0_1_0XK0.xe
theorem ref03_New_l1_1_1_0_1_0X_ok : ref03_New_l1_1_1_0_1_0X.OK := XS.one_ok (shp_ok ref03_New_l1_1_1_0_1_0XK0)
def ref03_New_l1_1_1_0_1_0S : Shp := ⟨19, 0, [(0, .d (.int .i64)), (2, .pt 0 (.one (.st (.cons .leaf (.cons .leaf (.cons .leaf (.cons (.st (.cons .leaf (.cons .leaf (.one .leaf)))) (.cons .leaf (.one .leaf)))))))) []), (3, .d .str), (4, .wn 1 .str), (5, .d (.int .i64))], [.var 52 (.ag [.wn 2 .str, .wn 3 c6, .d (.int .i64), .ag [.wn 4 (.int .i64), .d (.int .i64), .d (.int .i64)], .d (.int .i64), .d .bool]), .row 9 .str, .row 9 .str, .row 77 c6, .row 3 (.int .i64)]⟩
def ref03_New_l1_1_1_0_1_0r (n : Int) (t3 : List Int) (i : Int) (t2 : Int) (t22 : Int) (t23 : Int) (t24 : Int) (t25 : Bool) (l : List (List Int)) (t26 : List (List Int)) (t27 : List (Int × (List Int))) (t28 : List Int) : Option ((Int × (List Int) × Int × Int × Int × Int × Int × Bool × (List (List Int)) × (List (List Int)) × (List (Int × (List Int))) × (List Int)) ⊕ ((Int × Int × Int × Int × Bool × (List (List Int)) × (List (List Int)) × (List (Int × (List Int))) × (List Int)))) :=
  bif ltI i n then
  bif Nat.beq (List.length l) (List.length l) then
  appG (List.length l) (List.length ([t3] : List (List Int))) 16 fun _ =>
  bif Nat.beq (List.length (l ++ ([t3] : List (List Int)))) (List.length (l ++ ([t3] : List (List Int)))) then
  bif Nat.beq (List.length t26) (List.length t26) then
  bif Nat.beq (List.length t27) (List.length t27) then
  bif Nat.beq (List.length t28) (List.length t28) then
  some (.inl (n, t3, W64 (i + 1), t2, t22, t23, t24, t25, l ++ ([t3] : List (List Int)), t26, t27, t28))
  else none
  else none
  else none
  else none
  else none
  else
  bif Nat.beq (List.length l) (List.length l) then
  bif Nat.beq (List.length t26) (List.length t26) then
  bif Nat.beq (List.length t27) (List.length t27) then
  bif Nat.beq (List.length t28) (List.length t28) then
  some (.inr (t2, t22, t23, t24, t25, l, t26, t27, t28))
  else none
  else none
  else none
  else none
def ref03_New_l1_1_1_0_1_0g (s : Int × (List Int) × Int × Int × Int × Int × Int × Bool × (List (List Int)) × (List (List Int)) × (List (Int × (List Int))) × (List Int)) : Option ((Int × (List Int) × Int × Int × Int × Int × Int × Bool × (List (List Int)) × (List (List Int)) × (List (Int × (List Int))) × (List Int)) ⊕ ((Int × Int × Int × Int × Bool × (List (List Int)) × (List (List Int)) × (List (Int × (List Int))) × (List Int)))) := ref03_New_l1_1_1_0_1_0r s.1 s.2.1 s.2.2.1 s.2.2.2.1 s.2.2.2.2.1 s.2.2.2.2.2.1 s.2.2.2.2.2.2.1 s.2.2.2.2.2.2.2.1 s.2.2.2.2.2.2.2.2.1 s.2.2.2.2.2.2.2.2.2.1 s.2.2.2.2.2.2.2.2.2.2.1 s.2.2.2.2.2.2.2.2.2.2.2
theorem ref03_New_l1_1_1_0_1_0_ok : SoundD Try.prog (.loop (subC (bodyC Try.f23) [1, 1, 1, 0, 1, 0, 0])) (loopD ref03_New_l1_1_1_0_1_0S.xe ref03_New_l1_1_1_0_1_0X (loopC ref03_New_l1_1_1_0_1_0g)) :=
  loop_sound (S := ref03_New_l1_1_1_0_1_0S.xe) (X := ref03_New_l1_1_1_0_1_0X) ref03_New_env (h := .no) (hok_of [] (by kernel_rfl) trivial) (shp_ok ref03_New_l1_1_1_0_1_0S) ref03_New_l1_1_1_0_1_0X_ok ref03_New_l1_1_1_0_1_0g (fun s => by kernel_rfl)
def ref03_New_XK0 : Shp := ⟨1, 0, [(0, .d c7)], []⟩
def ref03_New_X : XS := .one .ret ref03_New_XK0.xe
theorem ref03_New_X_ok : ref03_New_X.OK := XS.one_ok (shp_ok ref03_New_XK0)
def ref03_New (n : Int) : Option ((((List (List Int)) × (List (Int × (List Int))) × Int × ((List Int) × Int × Int) × Int × Bool))) :=
  winK (List.replicate 256 (0 : Int)) 0 256 fun w =>
  bif Nat.beq 0 (List.length ([] : List (List Int))) then
  bif Nat.beq 0 (List.length ([] : List (List Int))) then
  bif Nat.beq 0 (List.length ([] : List (Int × (List Int)))) then
  bif Nat.beq 0 (List.length ([] : List Int)) then
  (loopC ref03_New_l1_1_1_0_1_0g ((n, w, 0, 0, 0, 0, 0, false, ([] : List (List Int)), ([] : List (List Int)), ([] : List (Int × (List Int))), ([] : List Int)))).bind fun o =>
  winK o.2.2.2.2.2.1 0 (List.length o.2.2.2.2.2.1) fun w2 =>
  some (w2, [], (-1), ([], 0, 0), 0, false)
  else none
  else none
  else none
  else none
def ref03_New_S : Sig := ⟨23, [.d (.int .i64)], [], 0, ref03_New_X⟩
def ref03_New_fn (x : Int) : Option ((((List (List Int)) × (List (Int × (List Int))) × Int × ((List Int) × Int × Int) × Int × Bool))) := ref03_New x
theorem ref03_New_ok : FnOK Try.prog ref03_New_S ref03_New_fn :=
  fn_ok ref03_New_env (h := (.two .no (.two .no (.two .no (.two (.two .no (.over (loopD ref03_New_l1_1_1_0_1_0S.xe ref03_New_l1_1_1_0_1_0X (loopC ref03_New_l1_1_1_0_1_0g)))) .no))))) Try.func23 (hok_of [.den (.loop (subC (bodyC Try.f23) [1, 1, 1, 0, 1, 0, 0])) (loopD ref03_New_l1_1_1_0_1_0S.xe ref03_New_l1_1_1_0_1_0X (loopC ref03_New_l1_1_1_0_1_0g))] (by kernel_rfl) ⟨ref03_New_l1_1_1_0_1_0_ok, trivial⟩) (by kernel_rfl) ref03_New_X_ok (fun x => by kernel_rfl)

/- wardshipref03.Why -/
def ref03_Why_V : Env := ⟨[], [], []⟩
theorem ref03_Why_env : EnvsOK Try.prog ref03_Why_V := ⟨env_nil _, fenv_nil _, denv_nil _⟩
def ref03_Why_XK0 : Shp := ⟨1, 0, [(0, .d (.int .i64))], []⟩
def ref03_Why_X : XS := .one .ret ref03_Why_XK0.xe
theorem ref03_Why_X_ok : ref03_Why_X.OK := XS.one_ok (shp_ok ref03_Why_XK0)
def ref03_Why (d : (List (List Int)) × (List (Int × (List Int))) × Int × ((List Int) × Int × Int) × Int × Bool) (i : Int) : Option ((Int)) :=
  bif d.2.2.2.2.2 then
  some 6
  else
  bif ltI i 0 then
  some 2
  else
  shortK (List.length d.1) (
  bif leI (List.length d.1 : Nat) i then
  some 2
  else
  some 0)
def ref03_Why_S : Sig := ⟨33, [.d c7, .d (.int .i64)], [], 0, ref03_Why_X⟩
def ref03_Why_fn (x : ((List (List Int)) × (List (Int × (List Int))) × Int × ((List Int) × Int × Int) × Int × Bool) × Int) : Option ((Int)) := ref03_Why x.1 x.2
theorem ref03_Why_ok : FnOK Try.prog ref03_Why_S ref03_Why_fn :=
  fn_ok ref03_Why_env (h := .no) Try.func33 (hok_of [] (by kernel_rfl) trivial) (by kernel_rfl) ref03_Why_X_ok (fun x => by kernel_rfl)

/- wardshipref03.in -/
def ref03_in_V : Env := ⟨[], [], []⟩
theorem ref03_in_env : EnvsOK Try.prog ref03_in_V := ⟨env_nil _, fenv_nil _, denv_nil _⟩
def ref03_in_l1_0_1_0XK0 : Shp := ⟨18, 0, [], []⟩
def ref03_in_l1_0_1_0XK1 : Shp := ⟨18, 0, [(4, .d .bool)], []⟩
def ref03_in_l1_0_1_0X : XS := .or (.exit 0) ref03_in_l1_0_1_0XK0.xe (.one .ret ref03_in_l1_0_1_0XK1.xe)
theorem ref03_in_l1_0_1_0X_ok : ref03_in_l1_0_1_0X.OK := XS.or_ok (shp_ok ref03_in_l1_0_1_0XK0) (XS.one_ok (shp_ok ref03_in_l1_0_1_0XK1))
def ref03_in_l1_0_1_0S : Shp := ⟨18, 0, [(0, .d (.sl (.int .i64))), (1, .d (.int .i64)), (5, .d (.int .i64))], []⟩
def ref03_in_l1_0_1_0r (l : List Int) (n : Int) (i : Int) : Option (((List Int) × Int × Int) ⊕ ((Unit) ⊕ (Bool))) :=
  shortK (List.length l) (
  bif ltI i (List.length l : Nat) then
  (idxI l i).bind fun x =>
  bif eqI x n then
  some (.inr (.inr true))
  else
  some (.inl (l, n, W64 (i + 1)))
  else
  some (.inr (.inl ())))
def ref03_in_l1_0_1_0g (s : (List Int) × Int × Int) : Option (((List Int) × Int × Int) ⊕ ((Unit) ⊕ (Bool))) := ref03_in_l1_0_1_0r s.1 s.2.1 s.2.2
theorem ref03_in_l1_0_1_0_ok : SoundD Try.prog (.loop (subC (bodyC Try.f39) [1, 0, 1, 0, 0])) (loopD ref03_in_l1_0_1_0S.xe ref03_in_l1_0_1_0X (loopC ref03_in_l1_0_1_0g)) :=
  loop_sound (S := ref03_in_l1_0_1_0S.xe) (X := ref03_in_l1_0_1_0X) ref03_in_env (h := .no) (hok_of [] (by kernel_rfl) trivial) (shp_ok ref03_in_l1_0_1_0S) ref03_in_l1_0_1_0X_ok ref03_in_l1_0_1_0g (fun s => by kernel_rfl)
def ref03_in_XK0 : Shp := ⟨1, 0, [(0, .d .bool)], []⟩
def ref03_in_X : XS := .one .ret ref03_in_XK0.xe
theorem ref03_in_X_ok : ref03_in_X.OK := XS.one_ok (shp_ok ref03_in_XK0)
def ref03_in (l : List Int) (n : Int) : Option ((Bool)) :=
  (loopC ref03_in_l1_0_1_0g (l, n, 0)).bind fun o =>
  Sum.elim (fun y =>
  some false) (fun y2 =>
  some y2) o
def ref03_in_S : Sig := ⟨39, [.d (.sl (.int .i64)), .d (.int .i64)], [], 0, ref03_in_X⟩
def ref03_in_fn (x : (List Int) × Int) : Option ((Bool)) := ref03_in x.1 x.2
theorem ref03_in_ok : FnOK Try.prog ref03_in_S ref03_in_fn :=
  fn_ok ref03_in_env (h := (.two .no (.two (.two .no (.over (loopD ref03_in_l1_0_1_0S.xe ref03_in_l1_0_1_0X (loopC ref03_in_l1_0_1_0g)))) .no))) Try.func39 (hok_of [.den (.loop (subC (bodyC Try.f39) [1, 0, 1, 0, 0])) (loopD ref03_in_l1_0_1_0S.xe ref03_in_l1_0_1_0X (loopC ref03_in_l1_0_1_0g))] (by kernel_rfl) ⟨ref03_in_l1_0_1_0_ok, trivial⟩) (by kernel_rfl) ref03_in_X_ok (fun x => by kernel_rfl)

/- wardshipref03.with -/
def ref03_with_V : Env := ⟨[], [], []⟩
theorem ref03_with_env : EnvsOK Try.prog ref03_with_V := ⟨env_nil _, fenv_nil _, denv_nil _⟩
def ref03_with_XK0 : Shp := ⟨1, 0, [(0, .d (.sl .str))], []⟩
def ref03_with_X : XS := .one .ret ref03_with_XK0.xe
theorem ref03_with_X_ok : ref03_with_X.OK := XS.one_ok (shp_ok ref03_with_XK0)
def ref03_with (l : List (List Int)) (t1 : Int) (t2 : List Int) : Option (((List (List Int)))) :=
  appG (List.length ([] : List (List Int))) (List.length l) 16 fun _ =>
  bif inI t1 (List.length l) then
  (l[t1.toNat]?).bind fun _x =>
  winK (l.set t1.toNat t2) 0 (List.length l) fun w =>
  some w
  else none
def ref03_with_S : Sig := ⟨38, [.d (.sl .str), .d (.int .i64), .d .str], [], 0, ref03_with_X⟩
def ref03_with_fn (x : (List (List Int)) × Int × (List Int)) : Option (((List (List Int)))) := ref03_with x.1 x.2.1 x.2.2
theorem ref03_with_ok : FnOK Try.prog ref03_with_S ref03_with_fn :=
  fn_ok ref03_with_env (h := (.two .no (.two (.reg [2] []) .no))) Try.func38 (hok_of [] (by kernel_rfl) trivial) (by kernel_rfl) ref03_with_X_ok (fun x => by kernel_rfl)

/- wardshipref03.Cut -/
def ref03_Cut_V : Env := ⟨[(entQ ref03_in_S ref03_in_fn), (entQ ref03_with_S ref03_with_fn)], [], []⟩
theorem ref03_Cut_env : EnvsOK Try.prog ref03_Cut_V := ⟨env_cons (entQ_ok ref03_in_ok) (env_cons (entQ_ok ref03_with_ok) (env_nil _)), fenv_nil _, denv_nil _⟩
def ref03_Cut_j1_1_0_1_0_0_1_0_0_1_1K0 : Shp := ⟨59, 0, [(2, .pt 0 (.one (.st (.cons .leaf (.cons .leaf (.cons .leaf (.cons (.st (.cons .leaf (.cons .leaf (.one .leaf)))) (.cons .leaf (.one .leaf)))))))) []), (3, .pt 1 (.one (.st (.cons .leaf (.cons .leaf (.one .leaf))))) []), (4, .pt 2 (.one (.st (.cons .leaf (.cons .leaf (.cons .leaf (.cons (.st (.cons .leaf (.cons .leaf (.one .leaf)))) (.cons .leaf (.one .leaf)))))))) []), (5, .d (.int .i64)), (6, .pt 3 (.one (.st (.cons .leaf (.one .leaf)))) []), (7, .d (.int .i64))], [.var 52 (.d c7), .var 25 (.d c2), .var 52 (.d c7), .var 77 (.d c6)]⟩
def ref03_Cut_j1_1_0_1_0_0_1_0_0_1_1 : XS := .one .normal ref03_Cut_j1_1_0_1_0_0_1_0_0_1_1K0.xe
theorem ref03_Cut_j1_1_0_1_0_0_1_0_0_1_1_ok : ref03_Cut_j1_1_0_1_0_0_1_0_0_1_1.OK := XS.one_ok (shp_ok ref03_Cut_j1_1_0_1_0_0_1_0_0_1_1K0)
def ref03_Cut_j1_1_0_1_0_0_1_0_0_1_1E : Shp := ⟨59, 0, [(2, .pt 0 (.one (.st (.cons .leaf (.cons .leaf (.cons .leaf (.cons (.st (.cons .leaf (.cons .leaf (.one .leaf)))) (.cons .leaf (.one .leaf)))))))) []), (3, .pt 1 (.one (.st (.cons .leaf (.cons .leaf (.one .leaf))))) []), (4, .pt 2 (.one (.st (.cons .leaf (.cons .leaf (.cons .leaf (.cons (.st (.cons .leaf (.cons .leaf (.one .leaf)))) (.cons .leaf (.one .leaf)))))))) []), (5, .d (.int .i64)), (6, .pt 3 (.one (.st (.cons .leaf (.one .leaf)))) []), (7, .d (.int .i64))], [.var 52 (.d c7), .var 25 (.d c2), .var 52 (.d c7), .var 77 (.d c6)]⟩
def ref03_Cut_j1_1_0_1_0_0_1_0_0_1_1_1K0 : Shp := ⟨59, 0, [(2, .pt 0 (.one (.st (.cons .leaf (.cons .leaf (.cons .leaf (.cons (.st (.cons .leaf (.cons .leaf (.one .leaf)))) (.cons .leaf (.one .leaf)))))))) []), (3, .pt 1 (.one (.st (.cons .leaf (.cons .leaf (.one .leaf))))) []), (4, .pt 2 (.one (.st (.cons .leaf (.cons .leaf (.cons .leaf (.cons (.st (.cons .leaf (.cons .leaf (.one .leaf)))) (.cons .leaf (.one .leaf)))))))) []), (5, .d (.int .i64)), (6, .pt 3 (.one (.st (.cons .leaf (.one .leaf)))) []), (7, .d (.int .i64))], [.var 52 (.d c7), .var 25 (.d c2), .var 52 (.d c7), .var 77 (.d c6)]⟩
def ref03_Cut_j1_1_0_1_0_0_1_0_0_1_1_1 : XS := .one .normal ref03_Cut_j1_1_0_1_0_0_1_0_0_1_1_1K0.xe
theorem ref03_Cut_j1_1_0_1_0_0_1_0_0_1_1_1_ok : ref03_Cut_j1_1_0_1_0_0_1_0_0_1_1_1.OK := XS.one_ok (shp_ok ref03_Cut_j1_1_0_1_0_0_1_0_0_1_1_1K0)
def ref03_Cut_j1_1_0_1_0_0_1_0_0_1_1_1E : Shp := ⟨59, 0, [(2, .pt 0 (.one (.st (.cons .leaf (.cons .leaf (.cons .leaf (.cons (.st (.cons .leaf (.cons .leaf (.one .leaf)))) (.cons .leaf (.one .leaf)))))))) []), (3, .pt 1 (.one (.st (.cons .leaf (.cons .leaf (.one .leaf))))) []), (4, .pt 2 (.one (.st (.cons .leaf (.cons .leaf (.cons .leaf (.cons (.st (.cons .leaf (.cons .leaf (.one .leaf)))) (.cons .leaf (.one .leaf)))))))) []), (5, .d (.int .i64)), (6, .pt 3 (.one (.st (.cons .leaf (.one .leaf)))) []), (7, .d (.int .i64))], [.var 52 (.d c7), .var 25 (.d c2), .var 52 (.d c7), .var 77 (.d c6)]⟩
def ref03_Cut_l1_1_0_1_0XK0 : Shp := ⟨59, 0, [(2, .pt 0 (.one (.st (.cons .leaf (.cons .leaf (.cons .leaf (.cons (.st (.cons .leaf (.cons .leaf (.one .leaf)))) (.cons .leaf (.one .leaf)))))))) []), (4, .pt 1 (.one (.st (.cons .leaf (.cons .leaf (.cons .leaf (.cons (.st (.cons .leaf (.cons .leaf (.one .leaf)))) (.cons .leaf (.one .leaf)))))))) [])], [.var 52 (.d c7), .var 52 (.d c7)]⟩
def ref03_Cut_l1_1_0_1_0X : XS := .one (.exit 0) ref03_Cut_l1_1_0_1_0XK0.xe
theorem ref03_Cut_l1_1_0_1_0X_ok : ref03_Cut_l1_1_0_1_0X.OK := XS.one_ok (shp_ok ref03_Cut_l1_1_0_1_0XK0)
def ref03_Cut_l1_1_0_1_0S : Shp := ⟨59, 0, [(2, .pt 0 (.one (.st (.cons .leaf (.cons .leaf (.cons .leaf (.cons (.st (.cons .leaf (.cons .leaf (.one .leaf)))) (.cons .leaf (.one .leaf)))))))) []), (3, .pt 1 (.one (.st (.cons .leaf (.cons .leaf (.one .leaf))))) []), (4, .pt 2 (.one (.st (.cons .leaf (.cons .leaf (.cons .leaf (.cons (.st (.cons .leaf (.cons .leaf (.one .leaf)))) (.cons .leaf (.one .leaf)))))))) []), (5, .d (.int .i64))], [.var 52 (.d c7), .var 25 (.d c2), .var 52 (.d c7)]⟩
def ref03_Cut_l1_1_0_1_0r (k : Int) (d : (List (List Int)) × (List (Int × (List Int))) × Int × ((List Int) × Int × Int) × Int × Bool) (c : (List Int) × Int × Int) (t4 : (List (List Int)) × (List (Int × (List Int))) × Int × ((List Int) × Int × Int) × Int × Bool) : Option ((Int × ((List (List Int)) × (List (Int × (List Int))) × Int × ((List Int) × Int × Int) × Int × Bool) × ((List Int) × Int × Int) × ((List (List Int)) × (List (Int × (List Int))) × Int × ((List Int) × Int × Int) × Int × Bool)) ⊕ ((((List (List Int)) × (List (Int × (List Int))) × Int × ((List Int) × Int × Int) × Int × Bool) × ((List (List Int)) × (List (Int × (List Int))) × Int × ((List Int) × Int × Int) × Int × Bool)))) :=
  shortK (List.length d.2.1) (
  bif ltI k (List.length d.2.1 : Nat) then
  (idxI d.2.1 k).bind fun x =>
  (show Option ((Int × Int × ((List (List Int)) × (List (Int × (List Int))) × Int × ((List Int) × Int × Int) × Int × Bool) × ((List Int) × Int × Int) × ((List (List Int)) × (List (Int × (List Int))) × Int × ((List Int) × Int × Int) × Int × Bool) × (Int × (List Int)))) from
  bif eqI c.2.1 k then
  some (k, maxI 0 (minI c.2.2 256), d, c, t4, x)
  else
  some (k, 0, d, c, t4, x)).bind fun j =>
  (show Option ((Int × Int × ((List (List Int)) × (List (Int × (List Int))) × Int × ((List Int) × Int × Int) × Int × Bool) × ((List Int) × Int × Int) × ((List (List Int)) × (List (Int × (List Int))) × Int × ((List Int) × Int × Int) × Int × Bool) × (Int × (List Int)))) from
  (ref03_in j.2.2.2.1.1 j.1).bind fun r =>
  bif r then
  some (j.1, 256, j.2.2.1, j.2.2.2.1, j.2.2.2.2.1, j.2.2.2.2.2)
  else
  some (j.1, j.2.1, j.2.2.1, j.2.2.2.1, j.2.2.2.2.1, j.2.2.2.2.2)).bind fun j2 =>
  bif subOk 0 j2.2.1 (List.length j2.2.2.2.2.2.2) then
  (idxI j2.2.2.1.1 j2.2.2.2.2.2.1).bind fun x2 =>
  bif subOk j2.2.1 (List.length x2 : Nat) (List.length x2) then
  catG (subL j2.2.2.2.2.2.2 0 j2.2.1) (subL x2 j2.2.1 (List.length x2 : Nat)) fun _ =>
  (ref03_with j2.2.2.1.1 j2.2.2.2.2.2.1 ((subL j2.2.2.2.2.2.2 0 j2.2.1) ++ (subL x2 j2.2.1 (List.length x2 : Nat)))).bind fun r2 =>
  some (.inl (W64 (j2.1 + 1), (r2, j2.2.2.1.2), j2.2.2.2.1, j2.2.2.2.2.1))
  else none
  else none
  else
  some (.inr (d, t4)))
def ref03_Cut_l1_1_0_1_0g (s : Int × ((List (List Int)) × (List (Int × (List Int))) × Int × ((List Int) × Int × Int) × Int × Bool) × ((List Int) × Int × Int) × ((List (List Int)) × (List (Int × (List Int))) × Int × ((List Int) × Int × Int) × Int × Bool)) : Option ((Int × ((List (List Int)) × (List (Int × (List Int))) × Int × ((List Int) × Int × Int) × Int × Bool) × ((List Int) × Int × Int) × ((List (List Int)) × (List (Int × (List Int))) × Int × ((List Int) × Int × Int) × Int × Bool)) ⊕ ((((List (List Int)) × (List (Int × (List Int))) × Int × ((List Int) × Int × Int) × Int × Bool) × ((List (List Int)) × (List (Int × (List Int))) × Int × ((List Int) × Int × Int) × Int × Bool)))) := ref03_Cut_l1_1_0_1_0r s.1 s.2.1 s.2.2.1 s.2.2.2
theorem ref03_Cut_l1_1_0_1_0_ok : SoundD Try.prog (.loop (subC (bodyC Try.f34) [1, 1, 0, 1, 0, 0])) (loopD ref03_Cut_l1_1_0_1_0S.xe ref03_Cut_l1_1_0_1_0X (loopC ref03_Cut_l1_1_0_1_0g)) :=
  loop_sound (S := ref03_Cut_l1_1_0_1_0S.xe) (X := ref03_Cut_l1_1_0_1_0X) ref03_Cut_env (h := (.two .no (.two (.two .no (.two .no (.join (fun _ => ref03_Cut_j1_1_0_1_0_0_1_0_0_1_1) .no (.join (fun _ => ref03_Cut_j1_1_0_1_0_0_1_0_0_1_1_1) .no .no)))) .no))) (hok_of [.xs (fun _ => ref03_Cut_j1_1_0_1_0_0_1_0_0_1_1), .xs (fun _ => ref03_Cut_j1_1_0_1_0_0_1_0_0_1_1_1)] (by kernel_rfl) ⟨(oneX_ok ref03_Cut_j1_1_0_1_0_0_1_0_0_1_1_ok), (oneX_ok ref03_Cut_j1_1_0_1_0_0_1_0_0_1_1_1_ok), trivial⟩) (shp_ok ref03_Cut_l1_1_0_1_0S) ref03_Cut_l1_1_0_1_0X_ok ref03_Cut_l1_1_0_1_0g (fun s => by kernel_rfl)
def ref03_Cut_XK0 : Shp := ⟨1, 0, [(0, .d c7)], []⟩
def ref03_Cut_X : XS := .one .ret ref03_Cut_XK0.xe
theorem ref03_Cut_X_ok : ref03_Cut_X.OK := XS.one_ok (shp_ok ref03_Cut_XK0)
def ref03_Cut (d : (List (List Int)) × (List (Int × (List Int))) × Int × ((List Int) × Int × Int) × Int × Bool) (c : (List Int) × Int × Int) : Option ((((List (List Int)) × (List (Int × (List Int))) × Int × ((List Int) × Int × Int) × Int × Bool))) :=
  bif d.2.2.2.2.2 then
  some d
  else
  (loopC ref03_Cut_l1_1_0_1_0g (0, d, c, ([], [], 0, ([], 0, 0), 0, false))).bind fun o =>
  some (o.1.1, [], (-1), ([], 0, 0), o.1.2.2.2.2.1, true)
def ref03_Cut_S : Sig := ⟨34, [.d c7, .d c2], [], 0, ref03_Cut_X⟩
def ref03_Cut_fn (x : ((List (List Int)) × (List (Int × (List Int))) × Int × ((List Int) × Int × Int) × Int × Bool) × ((List Int) × Int × Int)) : Option ((((List (List Int)) × (List (Int × (List Int))) × Int × ((List Int) × Int × Int) × Int × Bool))) := ref03_Cut x.1 x.2
theorem ref03_Cut_ok : FnOK Try.prog ref03_Cut_S ref03_Cut_fn :=
  fn_ok ref03_Cut_env (h := (.two .no (.two .no (.two (.two .no (.over (loopD ref03_Cut_l1_1_0_1_0S.xe ref03_Cut_l1_1_0_1_0X (loopC ref03_Cut_l1_1_0_1_0g)))) .no)))) Try.func34 (hok_of [.den (.loop (subC (bodyC Try.f34) [1, 1, 0, 1, 0, 0])) (loopD ref03_Cut_l1_1_0_1_0S.xe ref03_Cut_l1_1_0_1_0X (loopC ref03_Cut_l1_1_0_1_0g))] (by kernel_rfl) ⟨ref03_Cut_l1_1_0_1_0_ok, trivial⟩) (by kernel_rfl) ref03_Cut_X_ok (fun x => by kernel_rfl)

/- wardshipref03.change -/
def ref03_change_2_V : Env := ⟨[(entQ ref03_Cut_S ref03_Cut_fn)], [], []⟩
theorem ref03_change_2_env : EnvsOK Try.prog ref03_change_2_V := ⟨env_cons (entQ_ok ref03_Cut_ok) (env_nil _), fenv_nil _, denv_nil _⟩
def ref03_change_2_XK0 : Shp := ⟨1, 0, [(0, .tu [.d c7, .d (.int .i64)])], []⟩
def ref03_change_2_X : XS := .one .ret ref03_change_2_XK0.xe
theorem ref03_change_2_X_ok : ref03_change_2_X.OK := XS.one_ok (shp_ok ref03_change_2_XK0)
def ref03_change_2 (d : (List (List Int)) × (List (Int × (List Int))) × Int × ((List Int) × Int × Int) × Int × Bool) : Option ((((List (List Int)) × (List (Int × (List Int))) × Int × ((List Int) × Int × Int) × Int × Bool) × Int)) :=
  bif eqI ((d.1, d.2.1, d.2.2.1, d.2.2.2.1, W64 (d.2.2.2.2.1 + 1), d.2.2.2.2.2).2.2.1) 0 then
  (ref03_Cut (d.1, d.2.1, d.2.2.1, d.2.2.2.1, W64 (d.2.2.2.2.1 + 1), d.2.2.2.2.2) ((d.1, d.2.1, d.2.2.1, d.2.2.2.1, W64 (d.2.2.2.2.1 + 1), d.2.2.2.2.2).2.2.2.1)).bind fun r =>
  some (r, 6)
  else
  bif ltI 0 ((d.1, d.2.1, d.2.2.1, d.2.2.2.1, W64 (d.2.2.2.2.1 + 1), d.2.2.2.2.2).2.2.1) then
  some ((((d.1, d.2.1, d.2.2.1, d.2.2.2.1, W64 (d.2.2.2.2.1 + 1), d.2.2.2.2.2).1, (d.1, d.2.1, d.2.2.1, d.2.2.2.1, W64 (d.2.2.2.2.1 + 1), d.2.2.2.2.2).2.1, W64 (((d.1, d.2.1, d.2.2.1, d.2.2.2.1, W64 (d.2.2.2.2.1 + 1), d.2.2.2.2.2).2.2.1) - 1), (d.1, d.2.1, d.2.2.1, d.2.2.2.1, W64 (d.2.2.2.2.1 + 1), d.2.2.2.2.2).2.2.2), 0))
  else
  some ((d.1, d.2.1, d.2.2.1, d.2.2.2.1, W64 (d.2.2.2.2.1 + 1), d.2.2.2.2.2), 0)
def ref03_change_2_S : Sig := ⟨37, [.d c7], [], 0, ref03_change_2_X⟩
def ref03_change_2_fn (x : ((List (List Int)) × (List (Int × (List Int))) × Int × ((List Int) × Int × Int) × Int × Bool)) : Option ((((List (List Int)) × (List (Int × (List Int))) × Int × ((List Int) × Int × Int) × Int × Bool) × Int)) := ref03_change_2 x
theorem ref03_change_2_ok : FnOK Try.prog ref03_change_2_S ref03_change_2_fn :=
  fn_ok ref03_change_2_env (h := .no) Try.func37 (hok_of [] (by kernel_rfl) trivial) (by kernel_rfl) ref03_change_2_X_ok (fun x => by kernel_rfl)

/- wardshipref03.Put -/
def ref03_Put_2_V : Env := ⟨[(entQ ref03_Why_S ref03_Why_fn), (entQ ref03_change_2_S ref03_change_2_fn)], [], []⟩
theorem ref03_Put_2_env : EnvsOK Try.prog ref03_Put_2_V := ⟨env_cons (entQ_ok ref03_Why_ok) (env_cons (entQ_ok ref03_change_2_ok) (env_nil _)), fenv_nil _, denv_nil _⟩
def ref03_Put_2_XK0 : Shp := ⟨1, 0, [(0, .tu [.d c7, .d (.int .i64)])], []⟩
def ref03_Put_2_X : XS := .one .ret ref03_Put_2_XK0.xe
theorem ref03_Put_2_X_ok : ref03_Put_2_X.OK := XS.one_ok (shp_ok ref03_Put_2_XK0)
def ref03_Put_2 (d : (List (List Int)) × (List (Int × (List Int))) × Int × ((List Int) × Int × Int) × Int × Bool) (i : Int) (t2 : List Int) : Option ((((List (List Int)) × (List (Int × (List Int))) × Int × ((List Int) × Int × Int) × Int × Bool) × Int)) :=
  (ref03_Why d i).bind fun r =>
  bif neI r 0 then
  some (d, r)
  else
  shortK (List.length t2) (
  bif neI (List.length t2 : Nat) 256 then
  some (d, 1)
  else
  appG (List.length ([] : List (Int × (List Int)))) (List.length d.2.1) 24 fun _ =>
  bif Nat.beq (List.length d.2.1) (List.length d.2.1) then
  appG (List.length d.2.1) (List.length ([(i, t2)] : List (Int × (List Int)))) 24 fun _ =>
  winK (d.2.1 ++ ([(i, t2)] : List (Int × (List Int)))) 0 (List.length (d.2.1 ++ ([(i, t2)] : List (Int × (List Int))))) fun w =>
  (ref03_change_2 (d.1, w, d.2.2)).bind fun r2 =>
  some (r2.1, r2.2)
  else none)
def ref03_Put_2_S : Sig := ⟨31, [.d c7, .d (.int .i64), .d .str], [], 0, ref03_Put_2_X⟩
def ref03_Put_2_fn (x : ((List (List Int)) × (List (Int × (List Int))) × Int × ((List Int) × Int × Int) × Int × Bool) × Int × (List Int)) : Option ((((List (List Int)) × (List (Int × (List Int))) × Int × ((List Int) × Int × Int) × Int × Bool) × Int)) := ref03_Put_2 x.1 x.2.1 x.2.2
theorem ref03_Put_2_ok : FnOK Try.prog ref03_Put_2_S ref03_Put_2_fn :=
  fn_ok ref03_Put_2_env (h := (.two .no (.two .no (.two .no (.two (.reg [3] []) (.two (.reg [7] []) .no)))))) Try.func31 (hok_of [] (by kernel_rfl) trivial) (by kernel_rfl) ref03_Put_2_X_ok (fun x => by kernel_rfl)

/- wardshipref03.Now -/
def ref03_Now_V : Env := ⟨[], [], []⟩
theorem ref03_Now_env : EnvsOK Try.prog ref03_Now_V := ⟨env_nil _, fenv_nil _, denv_nil _⟩
def ref03_Now_l1_0_1_0XK0 : Shp := ⟨33, 0, [(1, .d (.int .i64)), (2, .pt 0 (.one (.st (.cons .leaf (.cons .leaf (.cons .leaf (.cons (.st (.cons .leaf (.cons .leaf (.one .leaf)))) (.cons .leaf (.one .leaf)))))))) [])], [.var 52 (.d c7)]⟩
def ref03_Now_l1_0_1_0XK1 : Shp := ⟨33, 0, [(4, .d .str)], []⟩
def ref03_Now_l1_0_1_0X : XS := .or (.exit 0) ref03_Now_l1_0_1_0XK0.xe (.one .ret ref03_Now_l1_0_1_0XK1.xe)
theorem ref03_Now_l1_0_1_0X_ok : ref03_Now_l1_0_1_0X.OK := XS.or_ok (shp_ok ref03_Now_l1_0_1_0XK0) (XS.one_ok (shp_ok ref03_Now_l1_0_1_0XK1))
def ref03_Now_l1_0_1_0S : Shp := ⟨33, 0, [(1, .d (.int .i64)), (2, .pt 0 (.one (.st (.cons .leaf (.cons .leaf (.cons .leaf (.cons (.st (.cons .leaf (.cons .leaf (.one .leaf)))) (.cons .leaf (.one .leaf)))))))) []), (5, .d (.int .i64))], [.var 52 (.d c7)]⟩
def ref03_Now_l1_0_1_0r (i : Int) (k : Int) (d : (List (List Int)) × (List (Int × (List Int))) × Int × ((List Int) × Int × Int) × Int × Bool) : Option ((Int × Int × ((List (List Int)) × (List (Int × (List Int))) × Int × ((List Int) × Int × Int) × Int × Bool)) ⊕ ((Int × ((List (List Int)) × (List (Int × (List Int))) × Int × ((List Int) × Int × Int) × Int × Bool)) ⊕ ((List Int)))) :=
  bif leI 0 k then
  (idxI d.2.1 k).bind fun x =>
  bif eqI x.1 i then
  (idxI d.2.1 k).bind fun x2 =>
  some (.inr (.inr x2.2))
  else
  some (.inl (i, W64 (k - 1), d))
  else
  some (.inr (.inl (i, d)))
def ref03_Now_l1_0_1_0g (s : Int × Int × ((List (List Int)) × (List (Int × (List Int))) × Int × ((List Int) × Int × Int) × Int × Bool)) : Option ((Int × Int × ((List (List Int)) × (List (Int × (List Int))) × Int × ((List Int) × Int × Int) × Int × Bool)) ⊕ ((Int × ((List (List Int)) × (List (Int × (List Int))) × Int × ((List Int) × Int × Int) × Int × Bool)) ⊕ ((List Int)))) := ref03_Now_l1_0_1_0r s.1 s.2.1 s.2.2
theorem ref03_Now_l1_0_1_0_ok : SoundD Try.prog (.loop (subC (bodyC Try.f25) [1, 0, 1, 0, 0])) (loopD ref03_Now_l1_0_1_0S.xe ref03_Now_l1_0_1_0X (loopC ref03_Now_l1_0_1_0g)) :=
  loop_sound (S := ref03_Now_l1_0_1_0S.xe) (X := ref03_Now_l1_0_1_0X) ref03_Now_env (h := .no) (hok_of [] (by kernel_rfl) trivial) (shp_ok ref03_Now_l1_0_1_0S) ref03_Now_l1_0_1_0X_ok ref03_Now_l1_0_1_0g (fun s => by kernel_rfl)
def ref03_Now_XK0 : Shp := ⟨1, 0, [(0, .d .str)], []⟩
def ref03_Now_X : XS := .one .ret ref03_Now_XK0.xe
theorem ref03_Now_X_ok : ref03_Now_X.OK := XS.one_ok (shp_ok ref03_Now_XK0)
def ref03_Now (d : (List (List Int)) × (List (Int × (List Int))) × Int × ((List Int) × Int × Int) × Int × Bool) (i : Int) : Option (((List Int))) :=
  shortK (List.length d.2.1) (
  (loopC ref03_Now_l1_0_1_0g (i, W64 ((List.length d.2.1 : Nat) - 1), d)).bind fun o =>
  Sum.elim (fun y =>
  (idxI y.2.1 y.1).bind fun x =>
  some x) (fun y2 =>
  some y2) o)
def ref03_Now_S : Sig := ⟨25, [.d c7, .d (.int .i64)], [], 0, ref03_Now_X⟩
def ref03_Now_fn (x : ((List (List Int)) × (List (Int × (List Int))) × Int × ((List Int) × Int × Int) × Int × Bool) × Int) : Option (((List Int))) := ref03_Now x.1 x.2
theorem ref03_Now_ok : FnOK Try.prog ref03_Now_S ref03_Now_fn :=
  fn_ok ref03_Now_env (h := (.two .no (.two (.two .no (.over (loopD ref03_Now_l1_0_1_0S.xe ref03_Now_l1_0_1_0X (loopC ref03_Now_l1_0_1_0g)))) .no))) Try.func25 (hok_of [.den (.loop (subC (bodyC Try.f25) [1, 0, 1, 0, 0])) (loopD ref03_Now_l1_0_1_0S.xe ref03_Now_l1_0_1_0X (loopC ref03_Now_l1_0_1_0g))] (by kernel_rfl) ⟨ref03_Now_l1_0_1_0_ok, trivial⟩) (by kernel_rfl) ref03_Now_X_ok (fun x => by kernel_rfl)

/- wardshipref03.Barrier -/
def ref03_Barrier_2_V : Env := ⟨[(entQ ref03_change_2_S ref03_change_2_fn), (entQ ref03_Now_S ref03_Now_fn), (entQ ref03_with_S ref03_with_fn)], [], []⟩
theorem ref03_Barrier_2_env : EnvsOK Try.prog ref03_Barrier_2_V := ⟨env_cons (entQ_ok ref03_change_2_ok) (env_cons (entQ_ok ref03_Now_ok) (env_cons (entQ_ok ref03_with_ok) (env_nil _))), fenv_nil _, denv_nil _⟩
def ref03_Barrier_2_l1_1_1_1_0_1_0XK0 : Shp := ⟨36, 0, [(2, .pt 0 (.one (.st (.cons .leaf (.cons .leaf (.cons .leaf (.cons (.st (.cons .leaf (.cons .leaf (.one .leaf)))) (.cons .leaf (.one .leaf)))))))) []), (4, .pt 1 (.one (.st (.cons .leaf (.cons .leaf (.cons .leaf (.cons (.st (.cons .leaf (.cons .leaf (.one .leaf)))) (.cons .leaf (.one .leaf)))))))) [])], [.var 52 (.d c7), .var 52 (.d c7)]⟩
def ref03_Barrier_2_l1_1_1_1_0_1_0X : XS := .one (.exit 0) ref03_Barrier_2_l1_1_1_1_0_1_0XK0.xe
theorem ref03_Barrier_2_l1_1_1_1_0_1_0X_ok : ref03_Barrier_2_l1_1_1_1_0_1_0X.OK := XS.one_ok (shp_ok ref03_Barrier_2_l1_1_1_1_0_1_0XK0)
def ref03_Barrier_2_l1_1_1_1_0_1_0S : Shp := ⟨36, 0, [(2, .pt 0 (.one (.st (.cons .leaf (.cons .leaf (.cons .leaf (.cons (.st (.cons .leaf (.cons .leaf (.one .leaf)))) (.cons .leaf (.one .leaf)))))))) []), (4, .pt 1 (.one (.st (.cons .leaf (.cons .leaf (.cons .leaf (.cons (.st (.cons .leaf (.cons .leaf (.one .leaf)))) (.cons .leaf (.one .leaf)))))))) []), (6, .d (.int .i64))], [.var 52 (.d c7), .var 52 (.d c7)]⟩
def ref03_Barrier_2_l1_1_1_1_0_1_0r (i : Int) (t2 : (List (List Int)) × (List (Int × (List Int))) × Int × ((List Int) × Int × Int) × Int × Bool) (c : (List (List Int)) × (List (Int × (List Int))) × Int × ((List Int) × Int × Int) × Int × Bool) : Option ((Int × ((List (List Int)) × (List (Int × (List Int))) × Int × ((List Int) × Int × Int) × Int × Bool) × ((List (List Int)) × (List (Int × (List Int))) × Int × ((List Int) × Int × Int) × Int × Bool)) ⊕ ((((List (List Int)) × (List (Int × (List Int))) × Int × ((List Int) × Int × Int) × Int × Bool) × ((List (List Int)) × (List (Int × (List Int))) × Int × ((List Int) × Int × Int) × Int × Bool)))) :=
  shortK (List.length c.1) (
  bif ltI i (List.length c.1 : Nat) then
  (ref03_Now c i).bind fun r =>
  (ref03_with c.1 i r).bind fun r2 =>
  some (.inl (W64 (i + 1), t2, (r2, c.2)))
  else
  some (.inr (t2, c)))
def ref03_Barrier_2_l1_1_1_1_0_1_0g (s : Int × ((List (List Int)) × (List (Int × (List Int))) × Int × ((List Int) × Int × Int) × Int × Bool) × ((List (List Int)) × (List (Int × (List Int))) × Int × ((List Int) × Int × Int) × Int × Bool)) : Option ((Int × ((List (List Int)) × (List (Int × (List Int))) × Int × ((List Int) × Int × Int) × Int × Bool) × ((List (List Int)) × (List (Int × (List Int))) × Int × ((List Int) × Int × Int) × Int × Bool)) ⊕ ((((List (List Int)) × (List (Int × (List Int))) × Int × ((List Int) × Int × Int) × Int × Bool) × ((List (List Int)) × (List (Int × (List Int))) × Int × ((List Int) × Int × Int) × Int × Bool)))) := ref03_Barrier_2_l1_1_1_1_0_1_0r s.1 s.2.1 s.2.2
theorem ref03_Barrier_2_l1_1_1_1_0_1_0_ok : SoundD Try.prog (.loop (subC (bodyC Try.f32) [1, 1, 1, 1, 0, 1, 0, 0])) (loopD ref03_Barrier_2_l1_1_1_1_0_1_0S.xe ref03_Barrier_2_l1_1_1_1_0_1_0X (loopC ref03_Barrier_2_l1_1_1_1_0_1_0g)) :=
  loop_sound (S := ref03_Barrier_2_l1_1_1_1_0_1_0S.xe) (X := ref03_Barrier_2_l1_1_1_1_0_1_0X) ref03_Barrier_2_env (h := .no) (hok_of [] (by kernel_rfl) trivial) (shp_ok ref03_Barrier_2_l1_1_1_1_0_1_0S) ref03_Barrier_2_l1_1_1_1_0_1_0X_ok ref03_Barrier_2_l1_1_1_1_0_1_0g (fun s => by kernel_rfl)
def ref03_Barrier_2_XK0 : Shp := ⟨1, 0, [(0, .tu [.d c7, .d (.int .i64)])], []⟩
def ref03_Barrier_2_X : XS := .one .ret ref03_Barrier_2_XK0.xe
theorem ref03_Barrier_2_X_ok : ref03_Barrier_2_X.OK := XS.one_ok (shp_ok ref03_Barrier_2_XK0)
def ref03_Barrier_2 (d : (List (List Int)) × (List (Int × (List Int))) × Int × ((List Int) × Int × Int) × Int × Bool) : Option ((((List (List Int)) × (List (Int × (List Int))) × Int × ((List Int) × Int × Int) × Int × Bool) × Int)) :=
  bif d.2.2.2.2.2 then
  some (d, 6)
  else
  (ref03_change_2 d).bind fun r =>
  bif neI r.2 0 then
  some (r.1, r.2)
  else
  (loopC ref03_Barrier_2_l1_1_1_1_0_1_0g (0, ([], [], 0, ([], 0, 0), 0, false), r.1)).bind fun o =>
  some ((o.2.1, [], o.2.2.2), 0)
def ref03_Barrier_2_S : Sig := ⟨32, [.d c7], [], 0, ref03_Barrier_2_X⟩
def ref03_Barrier_2_fn (x : ((List (List Int)) × (List (Int × (List Int))) × Int × ((List Int) × Int × Int) × Int × Bool)) : Option ((((List (List Int)) × (List (Int × (List Int))) × Int × ((List Int) × Int × Int) × Int × Bool) × Int)) := ref03_Barrier_2 x
theorem ref03_Barrier_2_ok : FnOK Try.prog ref03_Barrier_2_S ref03_Barrier_2_fn :=
  fn_ok ref03_Barrier_2_env (h := (.two .no (.two .no (.two .no (.two .no (.two (.two .no (.over (loopD ref03_Barrier_2_l1_1_1_1_0_1_0S.xe ref03_Barrier_2_l1_1_1_1_0_1_0X (loopC ref03_Barrier_2_l1_1_1_1_0_1_0g)))) .no)))))) Try.func32 (hok_of [.den (.loop (subC (bodyC Try.f32) [1, 1, 1, 1, 0, 1, 0, 0])) (loopD ref03_Barrier_2_l1_1_1_1_0_1_0S.xe ref03_Barrier_2_l1_1_1_1_0_1_0X (loopC ref03_Barrier_2_l1_1_1_1_0_1_0g))] (by kernel_rfl) ⟨ref03_Barrier_2_l1_1_1_1_0_1_0_ok, trivial⟩) (by kernel_rfl) ref03_Barrier_2_X_ok (fun x => by kernel_rfl)

/- wardshipref03.Plan -/
def ref03_Plan_2_V : Env := ⟨[], [], []⟩
theorem ref03_Plan_2_env : EnvsOK Try.prog ref03_Plan_2_V := ⟨env_nil _, fenv_nil _, denv_nil _⟩
def ref03_Plan_2_XK0 : Shp := ⟨1, 0, [(0, .d c7)], []⟩
def ref03_Plan_2_X : XS := .one .ret ref03_Plan_2_XK0.xe
theorem ref03_Plan_2_X_ok : ref03_Plan_2_X.OK := XS.one_ok (shp_ok ref03_Plan_2_XK0)
def ref03_Plan_2 (d : (List (List Int)) × (List (Int × (List Int))) × Int × ((List Int) × Int × Int) × Int × Bool) (after : Int) (c : (List Int) × Int × Int) : Option ((((List (List Int)) × (List (Int × (List Int))) × Int × ((List Int) × Int × Int) × Int × Bool))) :=
  some ((d.1, d.2.1, maxI after (-1), d.2.2.2).1, (d.1, d.2.1, maxI after (-1), d.2.2.2).2.1, (d.1, d.2.1, maxI after (-1), d.2.2.2).2.2.1, c, (d.1, d.2.1, maxI after (-1), d.2.2.2).2.2.2.2)
def ref03_Plan_2_S : Sig := ⟨35, [.d c7, .d (.int .i64), .d c2], [], 0, ref03_Plan_2_X⟩
def ref03_Plan_2_fn (x : ((List (List Int)) × (List (Int × (List Int))) × Int × ((List Int) × Int × Int) × Int × Bool) × Int × ((List Int) × Int × Int)) : Option ((((List (List Int)) × (List (Int × (List Int))) × Int × ((List Int) × Int × Int) × Int × Bool))) := ref03_Plan_2 x.1 x.2.1 x.2.2
theorem ref03_Plan_2_ok : FnOK Try.prog ref03_Plan_2_S ref03_Plan_2_fn :=
  fn_ok ref03_Plan_2_env (h := .no) Try.func35 (hok_of [] (by kernel_rfl) trivial) (by kernel_rfl) ref03_Plan_2_X_ok (fun x => by kernel_rfl)

/- (*device.Device).Size -/
def device_Device_Size_2_V : Env := ⟨[], [], []⟩
theorem device_Device_Size_2_env : EnvsOK Try.prog device_Device_Size_2_V := ⟨env_nil _, fenv_nil _, denv_nil _⟩
def device_Device_Size_2_XK0 : Shp := ⟨1, 0, [(0, .d (.int .i64))], []⟩
def device_Device_Size_2_X : XS := .one .ret device_Device_Size_2_XK0.xe
theorem device_Device_Size_2_X_ok : device_Device_Size_2_X.OK := XS.one_ok (shp_ok device_Device_Size_2_XK0)
def device_Device_Size_2 (d : (List (List Int)) × (List (Int × (List Int))) × Int × ((List Int) × Int × Int) × Int × Bool) : Option ((Int)) :=
  shortK (List.length d.1) (
  some (List.length d.1 : Nat))
def device_Device_Size_2_S : Sig := ⟨22, [.rf (.d c3)], [], 0, device_Device_Size_2_X⟩
def device_Device_Size_2_fn (x : ((List (List Int)) × (List (Int × (List Int))) × Int × ((List Int) × Int × Int) × Int × Bool)) : Option ((Int)) := device_Device_Size_2 x
theorem device_Device_Size_2_ok : FnOK Try.prog device_Device_Size_2_S device_Device_Size_2_fn :=
  fn_ok device_Device_Size_2_env (h := .no) Try.func22 (hok_of [] (by kernel_rfl) trivial) (by kernel_rfl) device_Device_Size_2_X_ok (fun x => by kernel_rfl)

/- (*device.Device).On -/
def device_Device_On_4_V : Env := ⟨[], [], []⟩
theorem device_Device_On_4_env : EnvsOK Try.prog device_Device_On_4_V := ⟨env_nil _, fenv_nil _, denv_nil _⟩
def device_Device_On_4_XK0 : Shp := ⟨1, 2, [(0, .d .bool)], [.var 61 (.ag [.wn 1 c0, .d c1, .d (.int .i64), .d c2, .d (.int .i64), .d .bool]), .row 64 c0]⟩
def device_Device_On_4_X : XS := .one .ret device_Device_On_4_XK0.xe
theorem device_Device_On_4_X_ok : device_Device_On_4_X.OK := XS.one_ok (shp_ok device_Device_On_4_XK0)
def device_Device_On_4 (d : List (Int × (List Int))) (d2 : Int) (d3 : (List Int) × Int × Int) (d4 : Int) (d5 : Bool) (d6 : List (List Int)) : Option ((Bool × (List (Int × (List Int))) × Int × ((List Int) × Int × Int) × Int × Bool × (List (List Int)))) :=
  bif !d5 then
  bif Nat.beq (List.length d6) (List.length d6) then
  some (false, d, d2, d3, d4, d5, d6)
  else none
  else
  bif Nat.beq (List.length d6) (List.length d6) then
  some (true, d, d2, d3, d4, false, d6)
  else none
def device_Device_On_4_S : Sig := ⟨16, [.pt 0 (.one (.st (.cons .leaf (.cons .leaf (.cons .leaf (.cons (.st (.cons .leaf (.cons .leaf (.one .leaf)))) (.cons .leaf (.one .leaf)))))))) []], [.var 61 (.ag [.wn 1 c0, .d c1, .d (.int .i64), .d c2, .d (.int .i64), .d .bool]), .row 64 c0], 2, device_Device_On_4_X⟩
def device_Device_On_4_fn (x : (List (Int × (List Int))) × Int × ((List Int) × Int × Int) × Int × Bool × (List (List Int))) : Option ((Bool × (List (Int × (List Int))) × Int × ((List Int) × Int × Int) × Int × Bool × (List (List Int)))) := device_Device_On_4 x.1 x.2.1 x.2.2.1 x.2.2.2.1 x.2.2.2.2.1 x.2.2.2.2.2
theorem device_Device_On_4_ok : FnOK Try.prog device_Device_On_4_S device_Device_On_4_fn :=
  fn_ok device_Device_On_4_env (h := .no) Try.func16 (hok_of [] (by kernel_rfl) trivial) (by kernel_rfl) device_Device_On_4_X_ok (fun x => by kernel_rfl)

/- slices.Clone[[]int,int] -/
def slices_Clone_3_V : Env := ⟨[], [], []⟩
theorem slices_Clone_3_env : EnvsOK Try.prog slices_Clone_3_V := ⟨env_nil _, fenv_nil _, denv_nil _⟩
def slices_Clone_3_XK0 : Shp := ⟨1, 1, [(0, .d (.sl (.int .i64)))], [.row 3 (.int .i64)]⟩
def slices_Clone_3_X : XS := .one .ret slices_Clone_3_XK0.xe
theorem slices_Clone_3_X_ok : slices_Clone_3_X.OK := XS.one_ok (shp_ok slices_Clone_3_XK0)
def slices_Clone_3 (t0 : List Int) : Option (((List Int) × (List Int))) :=
  nilK (List.length t0) fun q =>
  bif q then
  some ([], t0)
  else
  winK t0 0 (List.length t0) fun w =>
  appG (List.length ([] : List Int)) (List.length w) 8 fun _ =>
  some (([] : List Int) ++ w, t0)
def slices_Clone_3_S : Sig := ⟨30, [.wn 0 (.int .i64)], [.row 3 (.int .i64)], 1, slices_Clone_3_X⟩
def slices_Clone_3_fn (x : (List Int)) : Option (((List Int) × (List Int))) := slices_Clone_3 x
theorem slices_Clone_3_ok : FnOK Try.prog slices_Clone_3_S slices_Clone_3_fn :=
  fn_ok slices_Clone_3_env (h := .no) Try.func30 (hok_of [] (by kernel_rfl) trivial) (by kernel_rfl) slices_Clone_3_X_ok (fun x => by kernel_rfl)

/- (*device.Device).Plan -/
def device_Device_Plan_4_V : Env := ⟨[], [], [(entD slices_Clone_3_S slices_Clone_3_fn)]⟩
theorem device_Device_Plan_4_env : EnvsOK Try.prog device_Device_Plan_4_V := ⟨env_nil _, fenv_nil _, denv_cons (entD_ok slices_Clone_3_ok) (denv_nil _)⟩
def device_Device_Plan_4_XK0 : Shp := ⟨1, 2, [(0, .tu [])], [.var 61 (.ag [.wn 2 c0, .d c1, .d (.int .i64), .d c2, .d (.int .i64), .d .bool]), .row 3 (.int .i64), .row 64 c0]⟩
def device_Device_Plan_4_X : XS := .one .ret device_Device_Plan_4_XK0.xe
theorem device_Device_Plan_4_X_ok : device_Device_Plan_4_X.OK := XS.one_ok (shp_ok device_Device_Plan_4_XK0)
def device_Device_Plan_4 (after : Int) (c : Int) (c2 : Int) (d : List (Int × (List Int))) (d2 : Int) (d3 : (List Int) × Int × Int) (d4 : Int) (d5 : Bool) (c3 : List Int) (d6 : List (List Int)) : Option (((List (Int × (List Int))) × Int × ((List Int) × Int × Int) × Int × Bool × (List Int) × (List (List Int)))) :=
  bif Nat.beq (List.length c3) (List.length c3) then
  (slices_Clone_3 c3).bind fun r =>
  bif Nat.beq (List.length d6) (List.length d6) then
  some (d, maxI after (-1), (r.1, c, c2), d4, d5, r.2, d6)
  else none
  else none
def device_Device_Plan_4_S : Sig := ⟨21, [.pt 0 (.one (.st (.cons .leaf (.cons .leaf (.cons .leaf (.cons (.st (.cons .leaf (.cons .leaf (.one .leaf)))) (.cons .leaf (.one .leaf)))))))) [], .d (.int .i64), .ag [.wn 1 (.int .i64), .d (.int .i64), .d (.int .i64)]], [.var 61 (.ag [.wn 2 c0, .d c1, .d (.int .i64), .d c2, .d (.int .i64), .d .bool]), .row 3 (.int .i64), .row 64 c0], 2, device_Device_Plan_4_X⟩
def device_Device_Plan_4_fn (x : Int × Int × Int × (List (Int × (List Int))) × Int × ((List Int) × Int × Int) × Int × Bool × (List Int) × (List (List Int))) : Option (((List (Int × (List Int))) × Int × ((List Int) × Int × Int) × Int × Bool × (List Int) × (List (List Int)))) := device_Device_Plan_4 x.1 x.2.1 x.2.2.1 x.2.2.2.1 x.2.2.2.2.1 x.2.2.2.2.2.1 x.2.2.2.2.2.2.1 x.2.2.2.2.2.2.2.1 x.2.2.2.2.2.2.2.2.1 x.2.2.2.2.2.2.2.2.2
theorem device_Device_Plan_4_ok : FnOK Try.prog device_Device_Plan_4_S device_Device_Plan_4_fn :=
  fn_ok device_Device_Plan_4_env (h := .no) Try.func21 (hok_of [] (by kernel_rfl) trivial) (by kernel_rfl) device_Device_Plan_4_X_ok (fun x => by kernel_rfl)

/- wardshiplaw03.step -/
def law03_step_2_V : Env := ⟨[(entQ ref03_Put_2_S ref03_Put_2_fn), (entQ ref03_Barrier_2_S ref03_Barrier_2_fn), (entQ ref03_Why_S ref03_Why_fn), (entQ ref03_Now_S ref03_Now_fn), (entQ ref03_Cut_S ref03_Cut_fn), (entQ ref03_Plan_2_S ref03_Plan_2_fn)], [(entP law03_full_2_S law03_full_2_fn), (entP device_Device_Write_4_S device_Device_Write_4_fn), (entP device_Device_Barrier_S device_Device_Barrier_fn), (entP device_Device_Read_2_S device_Device_Read_2_fn), (entP device_Device_Cut_S device_Device_Cut_fn), (entP device_Device_Plan_4_S device_Device_Plan_4_fn)], [(entD device_Device_On_4_S device_Device_On_4_fn)]⟩
theorem law03_step_2_env : EnvsOK Try.prog law03_step_2_V := ⟨env_cons (entQ_ok ref03_Put_2_ok) (env_cons (entQ_ok ref03_Barrier_2_ok) (env_cons (entQ_ok ref03_Why_ok) (env_cons (entQ_ok ref03_Now_ok) (env_cons (entQ_ok ref03_Cut_ok) (env_cons (entQ_ok ref03_Plan_2_ok) (env_nil _)))))), fenv_cons (entP_ok law03_full_2_ok) (fenv_cons (entP_ok device_Device_Write_4_ok) (fenv_cons (entP_ok device_Device_Barrier_ok) (fenv_cons (entP_ok device_Device_Read_2_ok) (fenv_cons (entP_ok device_Device_Cut_ok) (fenv_cons (entP_ok device_Device_Plan_4_ok) (fenv_nil _)))))), denv_cons (entD_ok device_Device_On_4_ok) (denv_nil _)⟩
def law03_step_2_j1_0_1_0_1_0_1K0 : Shp := ⟨186, 1, [(0, .pt 0 (.one (.st (.cons .leaf (.cons .leaf (.cons .leaf (.cons (.st (.cons .leaf (.cons .leaf (.one .leaf)))) (.cons .leaf (.one .leaf)))))))) []), (4, .pt 1 (.one (.st (.cons .leaf (.cons .leaf (.cons .leaf (.cons (.st (.cons .leaf (.cons .leaf (.one .leaf)))) (.cons .leaf (.one .leaf)))))))) []), (5, .pt 2 (.one (.st (.cons .leaf (.cons .leaf (.cons .leaf (.cons .leaf (.cons .leaf (.one (.st (.cons .leaf (.cons .leaf (.one .leaf)))))))))))) []), (6, .pt 3 (.one (.st (.cons .leaf (.cons .leaf (.cons .leaf (.cons (.st (.cons .leaf (.cons .leaf (.one .leaf)))) (.cons .leaf (.one .leaf)))))))) []), (8, .wn 4 (.int .u8))], [.var 61 (.ag [.wn 5 c0, .d c1, .d (.int .i64), .d c2, .d (.int .i64), .d .bool]), .var 52 (.d c7), .var 35 (.d c8), .var 52 (.ag [.wn 6 .str, .wn 7 c6, .d (.int .i64), .ag [.wn 8 (.int .i64), .d (.int .i64), .d (.int .i64)], .d (.int .i64), .d .bool]), .row 5 (.int .u8), .row 64 c0, .row 9 .str, .row 77 c6, .row 3 (.int .i64)]⟩
def law03_step_2_j1_0_1_0_1_0_1 : XS := .one .normal law03_step_2_j1_0_1_0_1_0_1K0.xe
theorem law03_step_2_j1_0_1_0_1_0_1_ok : law03_step_2_j1_0_1_0_1_0_1.OK := XS.one_ok (shp_ok law03_step_2_j1_0_1_0_1_0_1K0)
def law03_step_2_j1_0_1_0_1_0_1E : Shp := ⟨186, 1, [(0, .pt 0 (.one (.st (.cons .leaf (.cons .leaf (.cons .leaf (.cons (.st (.cons .leaf (.cons .leaf (.one .leaf)))) (.cons .leaf (.one .leaf)))))))) []), (4, .pt 1 (.one (.st (.cons .leaf (.cons .leaf (.cons .leaf (.cons (.st (.cons .leaf (.cons .leaf (.one .leaf)))) (.cons .leaf (.one .leaf)))))))) []), (5, .pt 2 (.one (.st (.cons .leaf (.cons .leaf (.cons .leaf (.cons .leaf (.cons .leaf (.one (.st (.cons .leaf (.cons .leaf (.one .leaf)))))))))))) []), (6, .pt 3 (.one (.st (.cons .leaf (.cons .leaf (.cons .leaf (.cons (.st (.cons .leaf (.cons .leaf (.one .leaf)))) (.cons .leaf (.one .leaf)))))))) []), (8, .wn 4 (.int .u8))], [.var 61 (.ag [.wn 5 c0, .d c1, .d (.int .i64), .d c2, .d (.int .i64), .d .bool]), .var 52 (.d c7), .var 35 (.d c8), .var 52 (.ag [.wn 6 .str, .wn 7 c6, .d (.int .i64), .ag [.wn 8 (.int .i64), .d (.int .i64), .d (.int .i64)], .d (.int .i64), .d .bool]), .row 5 (.int .u8), .row 64 c0, .row 9 .str, .row 77 c6, .row 3 (.int .i64)]⟩
def law03_step_2_l1_0_1_0_1_0_1_1_1_1_0_1_0XK0 : Shp := ⟨186, 1, [(6, .pt 1 (.one (.st (.cons .leaf (.cons .leaf (.cons .leaf (.cons (.st (.cons .leaf (.cons .leaf (.one .leaf)))) (.cons .leaf (.one .leaf)))))))) []), (9, .d (.int .i64)), (10, .pt 2 (.one (.st (.cons .leaf (.cons .leaf (.cons .leaf (.cons (.st (.cons .leaf (.cons .leaf (.one .leaf)))) (.cons .leaf (.one .leaf)))))))) []), (11, .d (.int .i64))], [.var 61 (.ag [.wn 3 c0, .d c1, .d (.int .i64), .d c2, .d (.int .i64), .d .bool]), .var 52 (.ag [.wn 4 .str, .wn 5 c6, .d (.int .i64), .ag [.wn 6 (.int .i64), .d (.int .i64), .d (.int .i64)], .d (.int .i64), .d .bool]), .var 52 (.d c7), .row 64 c0, .row 9 .str, .row 77 c6, .row 3 (.int .i64)]⟩
def law03_step_2_l1_0_1_0_1_0_1_1_1_1_0_1_0X : XS := .one (.exit 1) law03_step_2_l1_0_1_0_1_0_1_1_1_1_0_1_0XK0.xe
theorem law03_step_2_l1_0_1_0_1_0_1_1_1_1_0_1_0X_ok : law03_step_2_l1_0_1_0_1_0_1_1_1_1_0_1_0X.OK := XS.one_ok (shp_ok law03_step_2_l1_0_1_0_1_0_1_1_1_1_0_1_0XK0)
def law03_step_2_l1_0_1_0_1_0_1_1_1_1_0_1_0S : Shp := ⟨186, 1, [(6, .pt 1 (.one (.st (.cons .leaf (.cons .leaf (.cons .leaf (.cons (.st (.cons .leaf (.cons .leaf (.one .leaf)))) (.cons .leaf (.one .leaf)))))))) []), (8, .wn 2 (.int .u8)), (9, .d (.int .i64)), (10, .pt 3 (.one (.st (.cons .leaf (.cons .leaf (.cons .leaf (.cons (.st (.cons .leaf (.cons .leaf (.one .leaf)))) (.cons .leaf (.one .leaf)))))))) []), (11, .d (.int .i64)), (55, .d (.int .i64)), (56, .d (.int .i64))], [.var 61 (.ag [.wn 4 c0, .d c1, .d (.int .i64), .d c2, .d (.int .i64), .d .bool]), .var 52 (.ag [.wn 5 .str, .wn 6 c6, .d (.int .i64), .ag [.wn 7 (.int .i64), .d (.int .i64), .d (.int .i64)], .d (.int .i64), .d .bool]), .row 5 (.int .u8), .var 52 (.d c7), .row 64 c0, .row 9 .str, .row 77 c6, .row 3 (.int .i64)]⟩
def law03_step_2_l1_0_1_0_1_0_1_1_1_1_0_1_0r (t9 : Int) (f : Int) (t55 : Int) (t56 : Int) (h : List (Int × (List Int))) (h2 : Int) (h3 : (List Int) × Int × Int) (h4 : Int) (h5 : Bool) (t6 : Int) (t62 : Int) (t63 : Int) (t64 : Int) (t65 : Bool) (b : List Int) (y : (List (List Int)) × (List (Int × (List Int))) × Int × ((List Int) × Int × Int) × Int × Bool) (h6 : List (List Int)) (t66 : List (List Int)) (t67 : List (Int × (List Int))) (t68 : List Int) : Option ((Int × Int × Int × Int × (List (Int × (List Int))) × Int × ((List Int) × Int × Int) × Int × Bool × Int × Int × Int × Int × Bool × (List Int) × ((List (List Int)) × (List (Int × (List Int))) × Int × ((List Int) × Int × Int) × Int × Bool) × (List (List Int)) × (List (List Int)) × (List (Int × (List Int))) × (List Int)) ⊕ ((Int × Int × (List (Int × (List Int))) × Int × ((List Int) × Int × Int) × Int × Bool × Int × Int × Int × Int × Bool × ((List (List Int)) × (List (Int × (List Int))) × Int × ((List Int) × Int × Int) × Int × Bool) × (List (List Int)) × (List (List Int)) × (List (Int × (List Int))) × (List Int)))) :=
  bif ltI t56 t55 then
  bif inI t56 (List.length b) then
  (b[t56.toNat]?).bind fun x =>
  bif inI t56 (List.length b) then
  (b[t56.toNat]?).bind fun _x =>
  bif Nat.beq (List.length b) (List.length (b.set t56.toNat (WU8 (x + 1)))) then
  bif Nat.beq (List.length h6) (List.length h6) then
  bif Nat.beq (List.length t66) (List.length t66) then
  bif Nat.beq (List.length t67) (List.length t67) then
  bif Nat.beq (List.length t68) (List.length t68) then
  some (.inl (t9, f, t55, W64 (t56 + 1), h, h2, h3, h4, h5, t6, t62, t63, t64, t65, b.set t56.toNat (WU8 (x + 1)), y, h6, t66, t67, t68))
  else none
  else none
  else none
  else none
  else none
  else none
  else none
  else
  bif Nat.beq (List.length h6) (List.length h6) then
  bif Nat.beq (List.length t66) (List.length t66) then
  bif Nat.beq (List.length t67) (List.length t67) then
  bif Nat.beq (List.length t68) (List.length t68) then
  some (.inr (t9, f, h, h2, h3, h4, h5, t6, t62, t63, t64, t65, y, h6, t66, t67, t68))
  else none
  else none
  else none
  else none
def law03_step_2_l1_0_1_0_1_0_1_1_1_1_0_1_0g (s : Int × Int × Int × Int × (List (Int × (List Int))) × Int × ((List Int) × Int × Int) × Int × Bool × Int × Int × Int × Int × Bool × (List Int) × ((List (List Int)) × (List (Int × (List Int))) × Int × ((List Int) × Int × Int) × Int × Bool) × (List (List Int)) × (List (List Int)) × (List (Int × (List Int))) × (List Int)) : Option ((Int × Int × Int × Int × (List (Int × (List Int))) × Int × ((List Int) × Int × Int) × Int × Bool × Int × Int × Int × Int × Bool × (List Int) × ((List (List Int)) × (List (Int × (List Int))) × Int × ((List Int) × Int × Int) × Int × Bool) × (List (List Int)) × (List (List Int)) × (List (Int × (List Int))) × (List Int)) ⊕ ((Int × Int × (List (Int × (List Int))) × Int × ((List Int) × Int × Int) × Int × Bool × Int × Int × Int × Int × Bool × ((List (List Int)) × (List (Int × (List Int))) × Int × ((List Int) × Int × Int) × Int × Bool) × (List (List Int)) × (List (List Int)) × (List (Int × (List Int))) × (List Int)))) := law03_step_2_l1_0_1_0_1_0_1_1_1_1_0_1_0r s.1 s.2.1 s.2.2.1 s.2.2.2.1 s.2.2.2.2.1 s.2.2.2.2.2.1 s.2.2.2.2.2.2.1 s.2.2.2.2.2.2.2.1 s.2.2.2.2.2.2.2.2.1 s.2.2.2.2.2.2.2.2.2.1 s.2.2.2.2.2.2.2.2.2.2.1 s.2.2.2.2.2.2.2.2.2.2.2.1 s.2.2.2.2.2.2.2.2.2.2.2.2.1 s.2.2.2.2.2.2.2.2.2.2.2.2.2.1 s.2.2.2.2.2.2.2.2.2.2.2.2.2.2.1 s.2.2.2.2.2.2.2.2.2.2.2.2.2.2.2.1 s.2.2.2.2.2.2.2.2.2.2.2.2.2.2.2.2.1 s.2.2.2.2.2.2.2.2.2.2.2.2.2.2.2.2.2.1 s.2.2.2.2.2.2.2.2.2.2.2.2.2.2.2.2.2.2.1 s.2.2.2.2.2.2.2.2.2.2.2.2.2.2.2.2.2.2.2
theorem law03_step_2_l1_0_1_0_1_0_1_1_1_1_0_1_0_ok : SoundD Try.prog (.loop (subC (bodyC Try.f24) [1, 0, 1, 0, 1, 0, 1, 1, 1, 1, 0, 1, 0, 0])) (loopD law03_step_2_l1_0_1_0_1_0_1_1_1_1_0_1_0S.xe law03_step_2_l1_0_1_0_1_0_1_1_1_1_0_1_0X (loopC law03_step_2_l1_0_1_0_1_0_1_1_1_1_0_1_0g)) :=
  loop_sound (S := law03_step_2_l1_0_1_0_1_0_1_1_1_1_0_1_0S.xe) (X := law03_step_2_l1_0_1_0_1_0_1_1_1_1_0_1_0X) law03_step_2_env (h := .no) (hok_of [] (by kernel_rfl) trivial) (shp_ok law03_step_2_l1_0_1_0_1_0_1_1_1_1_0_1_0S) law03_step_2_l1_0_1_0_1_0_1_1_1_1_0_1_0X_ok law03_step_2_l1_0_1_0_1_0_1_1_1_1_0_1_0g (fun s => by kernel_rfl)
def law03_step_2_j1_0_1_0_1_1_1_1_1_0_1_1K0 : Shp := ⟨186, 1, [(4, .pt 1 (.one (.st (.cons .leaf (.cons .leaf (.cons .leaf (.cons (.st (.cons .leaf (.cons .leaf (.one .leaf)))) (.cons .leaf (.one .leaf)))))))) []), (6, .pt 2 (.one (.st (.cons .leaf (.cons .leaf (.cons .leaf (.cons (.st (.cons .leaf (.cons .leaf (.one .leaf)))) (.cons .leaf (.one .leaf)))))))) []), (16, .wn 3 (.int .u8)), (19, .d .bool)], [.var 61 (.ag [.wn 4 c0, .d c1, .d (.int .i64), .d c2, .d (.int .i64), .d .bool]), .var 52 (.d c7), .var 52 (.ag [.wn 5 .str, .wn 6 c6, .d (.int .i64), .ag [.wn 7 (.int .i64), .d (.int .i64), .d (.int .i64)], .d (.int .i64), .d .bool]), .row 64 (.int .u8), .row 64 c0, .row 9 .str, .row 77 c6, .row 3 (.int .i64)]⟩
def law03_step_2_j1_0_1_0_1_1_1_1_1_0_1_1 : XS := .one .normal law03_step_2_j1_0_1_0_1_1_1_1_1_0_1_1K0.xe
theorem law03_step_2_j1_0_1_0_1_1_1_1_1_0_1_1_ok : law03_step_2_j1_0_1_0_1_1_1_1_1_0_1_1.OK := XS.one_ok (shp_ok law03_step_2_j1_0_1_0_1_1_1_1_1_0_1_1K0)
def law03_step_2_j1_0_1_0_1_1_1_1_1_0_1_1E : Shp := ⟨186, 1, [(4, .pt 1 (.one (.st (.cons .leaf (.cons .leaf (.cons .leaf (.cons (.st (.cons .leaf (.cons .leaf (.one .leaf)))) (.cons .leaf (.one .leaf)))))))) []), (5, .pt 2 (.one (.st (.cons .leaf (.cons .leaf (.cons .leaf (.cons .leaf (.cons .leaf (.one (.st (.cons .leaf (.cons .leaf (.one .leaf)))))))))))) []), (6, .pt 3 (.one (.st (.cons .leaf (.cons .leaf (.cons .leaf (.cons (.st (.cons .leaf (.cons .leaf (.one .leaf)))) (.cons .leaf (.one .leaf)))))))) []), (16, .wn 4 (.int .u8)), (17, .d (.int .i64))], [.var 61 (.ag [.wn 5 c0, .d c1, .d (.int .i64), .d c2, .d (.int .i64), .d .bool]), .var 52 (.d c7), .var 35 (.d c8), .var 52 (.ag [.wn 6 .str, .wn 7 c6, .d (.int .i64), .ag [.wn 8 (.int .i64), .d (.int .i64), .d (.int .i64)], .d (.int .i64), .d .bool]), .row 64 (.int .u8), .row 64 c0, .row 9 .str, .row 77 c6, .row 3 (.int .i64)]⟩
def law03_step_2_l1_0_1_0_1_1_1_1_1_0_1_1_1_0_1_0XK0 : Shp := ⟨186, 1, [(4, .pt 1 (.one (.st (.cons .leaf (.cons .leaf (.cons .leaf (.cons (.st (.cons .leaf (.cons .leaf (.one .leaf)))) (.cons .leaf (.one .leaf)))))))) []), (6, .pt 2 (.one (.st (.cons .leaf (.cons .leaf (.cons .leaf (.cons (.st (.cons .leaf (.cons .leaf (.one .leaf)))) (.cons .leaf (.one .leaf)))))))) []), (19, .d .bool)], [.var 61 (.ag [.wn 3 c0, .d c1, .d (.int .i64), .d c2, .d (.int .i64), .d .bool]), .var 52 (.d c7), .var 52 (.ag [.wn 4 .str, .wn 5 c6, .d (.int .i64), .ag [.wn 6 (.int .i64), .d (.int .i64), .d (.int .i64)], .d (.int .i64), .d .bool]), .row 64 c0, .row 9 .str, .row 77 c6, .row 3 (.int .i64)]⟩
def law03_step_2_l1_0_1_0_1_1_1_1_1_0_1_1_1_0_1_0X : XS := .one (.exit 3) law03_step_2_l1_0_1_0_1_1_1_1_1_0_1_1_1_0_1_0XK0.xe
theorem law03_step_2_l1_0_1_0_1_1_1_1_1_0_1_1_1_0_1_0X_ok : law03_step_2_l1_0_1_0_1_1_1_1_1_0_1_1_1_0_1_0X.OK := XS.one_ok (shp_ok law03_step_2_l1_0_1_0_1_1_1_1_1_0_1_1_1_0_1_0XK0)
def law03_step_2_l1_0_1_0_1_1_1_1_1_0_1_1_1_0_1_0S : Shp := ⟨186, 1, [(4, .pt 1 (.one (.st (.cons .leaf (.cons .leaf (.cons .leaf (.cons (.st (.cons .leaf (.cons .leaf (.one .leaf)))) (.cons .leaf (.one .leaf)))))))) []), (6, .pt 2 (.one (.st (.cons .leaf (.cons .leaf (.cons .leaf (.cons (.st (.cons .leaf (.cons .leaf (.one .leaf)))) (.cons .leaf (.one .leaf)))))))) []), (16, .wn 3 (.int .u8)), (19, .d .bool), (119, .d (.int .i64)), (120, .d (.int .i64))], [.var 61 (.ag [.wn 4 c0, .d c1, .d (.int .i64), .d c2, .d (.int .i64), .d .bool]), .var 52 (.d c7), .var 52 (.ag [.wn 5 .str, .wn 6 c6, .d (.int .i64), .ag [.wn 7 (.int .i64), .d (.int .i64), .d (.int .i64)], .d (.int .i64), .d .bool]), .row 64 (.int .u8), .row 64 c0, .row 9 .str, .row 77 c6, .row 3 (.int .i64)]⟩
def law03_step_2_l1_0_1_0_1_1_1_1_1_0_1_1_1_0_1_0r (ok : Bool) (t119 : Int) (t120 : Int) (h : List (Int × (List Int))) (h2 : Int) (h3 : (List Int) × Int × Int) (h4 : Int) (h5 : Bool) (x : (List (List Int)) × (List (Int × (List Int))) × Int × ((List Int) × Int × Int) × Int × Bool) (t6 : Int) (t62 : Int) (t63 : Int) (t64 : Int) (t65 : Bool) (b : List Int) (h6 : List (List Int)) (t66 : List (List Int)) (t67 : List (Int × (List Int))) (t68 : List Int) : Option ((Bool × Int × Int × (List (Int × (List Int))) × Int × ((List Int) × Int × Int) × Int × Bool × ((List (List Int)) × (List (Int × (List Int))) × Int × ((List Int) × Int × Int) × Int × Bool) × Int × Int × Int × Int × Bool × (List Int) × (List (List Int)) × (List (List Int)) × (List (Int × (List Int))) × (List Int)) ⊕ ((Bool × (List (Int × (List Int))) × Int × ((List Int) × Int × Int) × Int × Bool × ((List (List Int)) × (List (Int × (List Int))) × Int × ((List Int) × Int × Int) × Int × Bool) × Int × Int × Int × Int × Bool × (List (List Int)) × (List (List Int)) × (List (Int × (List Int))) × (List Int)))) :=
  bif ltI t120 t119 then
  bif inI t120 (List.length b) then
  (b[t120.toNat]?).bind fun x2 =>
  bif inI t120 (List.length b) then
  (b[t120.toNat]?).bind fun _x =>
  bif Nat.beq (List.length b) (List.length (b.set t120.toNat (WU8 (x2 + 1)))) then
  bif Nat.beq (List.length h6) (List.length h6) then
  bif Nat.beq (List.length t66) (List.length t66) then
  bif Nat.beq (List.length t67) (List.length t67) then
  bif Nat.beq (List.length t68) (List.length t68) then
  some (.inl (ok, t119, W64 (t120 + 1), h, h2, h3, h4, h5, x, t6, t62, t63, t64, t65, b.set t120.toNat (WU8 (x2 + 1)), h6, t66, t67, t68))
  else none
  else none
  else none
  else none
  else none
  else none
  else none
  else
  bif Nat.beq (List.length h6) (List.length h6) then
  bif Nat.beq (List.length t66) (List.length t66) then
  bif Nat.beq (List.length t67) (List.length t67) then
  bif Nat.beq (List.length t68) (List.length t68) then
  some (.inr (ok, h, h2, h3, h4, h5, x, t6, t62, t63, t64, t65, h6, t66, t67, t68))
  else none
  else none
  else none
  else none
def law03_step_2_l1_0_1_0_1_1_1_1_1_0_1_1_1_0_1_0g (s : Bool × Int × Int × (List (Int × (List Int))) × Int × ((List Int) × Int × Int) × Int × Bool × ((List (List Int)) × (List (Int × (List Int))) × Int × ((List Int) × Int × Int) × Int × Bool) × Int × Int × Int × Int × Bool × (List Int) × (List (List Int)) × (List (List Int)) × (List (Int × (List Int))) × (List Int)) : Option ((Bool × Int × Int × (List (Int × (List Int))) × Int × ((List Int) × Int × Int) × Int × Bool × ((List (List Int)) × (List (Int × (List Int))) × Int × ((List Int) × Int × Int) × Int × Bool) × Int × Int × Int × Int × Bool × (List Int) × (List (List Int)) × (List (List Int)) × (List (Int × (List Int))) × (List Int)) ⊕ ((Bool × (List (Int × (List Int))) × Int × ((List Int) × Int × Int) × Int × Bool × ((List (List Int)) × (List (Int × (List Int))) × Int × ((List Int) × Int × Int) × Int × Bool) × Int × Int × Int × Int × Bool × (List (List Int)) × (List (List Int)) × (List (Int × (List Int))) × (List Int)))) := law03_step_2_l1_0_1_0_1_1_1_1_1_0_1_1_1_0_1_0r s.1 s.2.1 s.2.2.1 s.2.2.2.1 s.2.2.2.2.1 s.2.2.2.2.2.1 s.2.2.2.2.2.2.1 s.2.2.2.2.2.2.2.1 s.2.2.2.2.2.2.2.2.1 s.2.2.2.2.2.2.2.2.2.1 s.2.2.2.2.2.2.2.2.2.2.1 s.2.2.2.2.2.2.2.2.2.2.2.1 s.2.2.2.2.2.2.2.2.2.2.2.2.1 s.2.2.2.2.2.2.2.2.2.2.2.2.2.1 s.2.2.2.2.2.2.2.2.2.2.2.2.2.2.1 s.2.2.2.2.2.2.2.2.2.2.2.2.2.2.2.1 s.2.2.2.2.2.2.2.2.2.2.2.2.2.2.2.2.1 s.2.2.2.2.2.2.2.2.2.2.2.2.2.2.2.2.2.1 s.2.2.2.2.2.2.2.2.2.2.2.2.2.2.2.2.2.2
theorem law03_step_2_l1_0_1_0_1_1_1_1_1_0_1_1_1_0_1_0_ok : SoundD Try.prog (.loop (subC (bodyC Try.f24) [1, 0, 1, 0, 1, 1, 1, 1, 1, 0, 1, 1, 1, 0, 1, 0, 0])) (loopD law03_step_2_l1_0_1_0_1_1_1_1_1_0_1_1_1_0_1_0S.xe law03_step_2_l1_0_1_0_1_1_1_1_1_0_1_1_1_0_1_0X (loopC law03_step_2_l1_0_1_0_1_1_1_1_1_0_1_1_1_0_1_0g)) :=
  loop_sound (S := law03_step_2_l1_0_1_0_1_1_1_1_1_0_1_1_1_0_1_0S.xe) (X := law03_step_2_l1_0_1_0_1_1_1_1_1_0_1_1_1_0_1_0X) law03_step_2_env (h := .no) (hok_of [] (by kernel_rfl) trivial) (shp_ok law03_step_2_l1_0_1_0_1_1_1_1_1_0_1_1_1_0_1_0S) law03_step_2_l1_0_1_0_1_1_1_1_1_0_1_1_1_0_1_0X_ok law03_step_2_l1_0_1_0_1_1_1_1_1_0_1_1_1_0_1_0g (fun s => by kernel_rfl)
def law03_step_2_l1_1_1_1_0_1_0XK0 : Shp := ⟨186, 1, [(4, .pt 1 (.one (.st (.cons .leaf (.cons .leaf (.cons .leaf (.cons (.st (.cons .leaf (.cons .leaf (.one .leaf)))) (.cons .leaf (.one .leaf)))))))) []), (5, .pt 2 (.one (.st (.cons .leaf (.cons .leaf (.cons .leaf (.cons .leaf (.cons .leaf (.one (.st (.cons .leaf (.cons .leaf (.one .leaf)))))))))))) []), (6, .pt 3 (.one (.st (.cons .leaf (.cons .leaf (.cons .leaf (.cons (.st (.cons .leaf (.cons .leaf (.one .leaf)))) (.cons .leaf (.one .leaf)))))))) [])], [.var 61 (.ag [.wn 4 c0, .d c1, .d (.int .i64), .d c2, .d (.int .i64), .d .bool]), .var 52 (.d c7), .var 35 (.d c8), .var 52 (.ag [.wn 5 .str, .wn 6 c6, .d (.int .i64), .ag [.wn 7 (.int .i64), .d (.int .i64), .d (.int .i64)], .d (.int .i64), .d .bool]), .row 64 c0, .row 9 .str, .row 77 c6, .row 3 (.int .i64)]⟩
def law03_step_2_l1_1_1_1_0_1_0X : XS := .one (.exit 5) law03_step_2_l1_1_1_1_0_1_0XK0.xe
theorem law03_step_2_l1_1_1_1_0_1_0X_ok : law03_step_2_l1_1_1_1_0_1_0X.OK := XS.one_ok (shp_ok law03_step_2_l1_1_1_1_0_1_0XK0)
def law03_step_2_l1_1_1_1_0_1_0S : Shp := ⟨186, 1, [(4, .pt 1 (.one (.st (.cons .leaf (.cons .leaf (.cons .leaf (.cons (.st (.cons .leaf (.cons .leaf (.one .leaf)))) (.cons .leaf (.one .leaf)))))))) []), (5, .pt 2 (.one (.st (.cons .leaf (.cons .leaf (.cons .leaf (.cons .leaf (.cons .leaf (.one (.st (.cons .leaf (.cons .leaf (.one .leaf)))))))))))) []), (6, .pt 3 (.one (.st (.cons .leaf (.cons .leaf (.cons .leaf (.cons (.st (.cons .leaf (.cons .leaf (.one .leaf)))) (.cons .leaf (.one .leaf)))))))) []), (22, .pt 4 (.one (.st (.cons .leaf (.cons .leaf (.one .leaf))))) []), (171, .d (.int .i64)), (172, .d (.int .i64))], [.var 61 (.ag [.wn 5 c0, .d c1, .d (.int .i64), .d c2, .d (.int .i64), .d .bool]), .var 52 (.d c7), .var 35 (.d c8), .var 52 (.ag [.wn 6 .str, .wn 7 c6, .d (.int .i64), .ag [.wn 8 (.int .i64), .d (.int .i64), .d (.int .i64)], .d (.int .i64), .d .bool]), .var 25 (.ag [.wn 9 (.int .i64), .d (.int .i64), .d (.int .i64)]), .row 64 c0, .row 9 .str, .row 77 c6, .row 3 (.int .i64), .row 3 (.int .i64)]⟩
def law03_step_2_l1_1_1_1_0_1_0r (t171 : Int) (t172 : Int) (h : List (Int × (List Int))) (h2 : Int) (h3 : (List Int) × Int × Int) (h4 : Int) (h5 : Bool) (x : (List (List Int)) × (List (Int × (List Int))) × Int × ((List Int) × Int × Int) × Int × Bool) (o : Int × Int × Int × (List Int) × Bool × ((List Int) × Int × Int)) (t6 : Int) (t62 : Int) (t63 : Int) (t64 : Int) (t65 : Bool) (c : Int) (c2 : Int) (h6 : List (List Int)) (t66 : List (List Int)) (t67 : List (Int × (List Int))) (t68 : List Int) (c3 : List Int) : Option ((Int × Int × (List (Int × (List Int))) × Int × ((List Int) × Int × Int) × Int × Bool × ((List (List Int)) × (List (Int × (List Int))) × Int × ((List Int) × Int × Int) × Int × Bool) × (Int × Int × Int × (List Int) × Bool × ((List Int) × Int × Int)) × Int × Int × Int × Int × Bool × Int × Int × (List (List Int)) × (List (List Int)) × (List (Int × (List Int))) × (List Int) × (List Int)) ⊕ (((List (Int × (List Int))) × Int × ((List Int) × Int × Int) × Int × Bool × ((List (List Int)) × (List (Int × (List Int))) × Int × ((List Int) × Int × Int) × Int × Bool) × (Int × Int × Int × (List Int) × Bool × ((List Int) × Int × Int)) × Int × Int × Int × Int × Bool × (List (List Int)) × (List (List Int)) × (List (Int × (List Int))) × (List Int)))) :=
  bif ltI t172 t171 then
  bif inI t172 (List.length c3) then
  (c3[t172.toNat]?).bind fun _x =>
  bif Nat.beq (List.length h6) (List.length h6) then
  bif Nat.beq (List.length t66) (List.length t66) then
  bif Nat.beq (List.length t67) (List.length t67) then
  bif Nat.beq (List.length t68) (List.length t68) then
  bif Nat.beq (List.length c3) (List.length (c3.set t172.toNat 0)) then
  some (.inl (t171, W64 (t172 + 1), h, h2, h3, h4, h5, x, o, t6, t62, t63, t64, t65, c, c2, h6, t66, t67, t68, c3.set t172.toNat 0))
  else none
  else none
  else none
  else none
  else none
  else none
  else
  bif Nat.beq (List.length h6) (List.length h6) then
  bif Nat.beq (List.length t66) (List.length t66) then
  bif Nat.beq (List.length t67) (List.length t67) then
  bif Nat.beq (List.length t68) (List.length t68) then
  some (.inr (h, h2, h3, h4, h5, x, o, t6, t62, t63, t64, t65, h6, t66, t67, t68))
  else none
  else none
  else none
  else none
def law03_step_2_l1_1_1_1_0_1_0g (s : Int × Int × (List (Int × (List Int))) × Int × ((List Int) × Int × Int) × Int × Bool × ((List (List Int)) × (List (Int × (List Int))) × Int × ((List Int) × Int × Int) × Int × Bool) × (Int × Int × Int × (List Int) × Bool × ((List Int) × Int × Int)) × Int × Int × Int × Int × Bool × Int × Int × (List (List Int)) × (List (List Int)) × (List (Int × (List Int))) × (List Int) × (List Int)) : Option ((Int × Int × (List (Int × (List Int))) × Int × ((List Int) × Int × Int) × Int × Bool × ((List (List Int)) × (List (Int × (List Int))) × Int × ((List Int) × Int × Int) × Int × Bool) × (Int × Int × Int × (List Int) × Bool × ((List Int) × Int × Int)) × Int × Int × Int × Int × Bool × Int × Int × (List (List Int)) × (List (List Int)) × (List (Int × (List Int))) × (List Int) × (List Int)) ⊕ (((List (Int × (List Int))) × Int × ((List Int) × Int × Int) × Int × Bool × ((List (List Int)) × (List (Int × (List Int))) × Int × ((List Int) × Int × Int) × Int × Bool) × (Int × Int × Int × (List Int) × Bool × ((List Int) × Int × Int)) × Int × Int × Int × Int × Bool × (List (List Int)) × (List (List Int)) × (List (Int × (List Int))) × (List Int)))) := law03_step_2_l1_1_1_1_0_1_0r s.1 s.2.1 s.2.2.1 s.2.2.2.1 s.2.2.2.2.1 s.2.2.2.2.2.1 s.2.2.2.2.2.2.1 s.2.2.2.2.2.2.2.1 s.2.2.2.2.2.2.2.2.1 s.2.2.2.2.2.2.2.2.2.1 s.2.2.2.2.2.2.2.2.2.2.1 s.2.2.2.2.2.2.2.2.2.2.2.1 s.2.2.2.2.2.2.2.2.2.2.2.2.1 s.2.2.2.2.2.2.2.2.2.2.2.2.2.1 s.2.2.2.2.2.2.2.2.2.2.2.2.2.2.1 s.2.2.2.2.2.2.2.2.2.2.2.2.2.2.2.1 s.2.2.2.2.2.2.2.2.2.2.2.2.2.2.2.2.1 s.2.2.2.2.2.2.2.2.2.2.2.2.2.2.2.2.2.1 s.2.2.2.2.2.2.2.2.2.2.2.2.2.2.2.2.2.2.1 s.2.2.2.2.2.2.2.2.2.2.2.2.2.2.2.2.2.2.2.1 s.2.2.2.2.2.2.2.2.2.2.2.2.2.2.2.2.2.2.2.2
theorem law03_step_2_l1_1_1_1_0_1_0_ok : SoundD Try.prog (.loop (subC (bodyC Try.f24) [1, 1, 1, 1, 0, 1, 0, 0])) (loopD law03_step_2_l1_1_1_1_0_1_0S.xe law03_step_2_l1_1_1_1_0_1_0X (loopC law03_step_2_l1_1_1_1_0_1_0g)) :=
  loop_sound (S := law03_step_2_l1_1_1_1_0_1_0S.xe) (X := law03_step_2_l1_1_1_1_0_1_0X) law03_step_2_env (h := .no) (hok_of [] (by kernel_rfl) trivial) (shp_ok law03_step_2_l1_1_1_1_0_1_0S) law03_step_2_l1_1_1_1_0_1_0X_ok law03_step_2_l1_1_1_1_0_1_0g (fun s => by kernel_rfl)
def law03_step_2_XK0 : Shp := ⟨1, 1, [(0, .tu [.d c7, .d .bool])], [.var 61 (.ag [.wn 1 c0, .d c1, .d (.int .i64), .d c2, .d (.int .i64), .d .bool]), .row 64 c0]⟩
def law03_step_2_X : XS := .one .ret law03_step_2_XK0.xe
theorem law03_step_2_X_ok : law03_step_2_X.OK := XS.one_ok (shp_ok law03_step_2_XK0)
def law03_step_2 (x : (List (List Int)) × (List (Int × (List Int))) × Int × ((List Int) × Int × Int) × Int × Bool) (o : Int × Int × Int × (List Int) × Bool × ((List Int) × Int × Int)) (d : List (Int × (List Int))) (d2 : Int) (d3 : (List Int) × Int × Int) (d4 : Int) (d5 : Bool) (d6 : List (List Int)) : Option ((((List (List Int)) × (List (Int × (List Int))) × Int × ((List Int) × Int × Int) × Int × Bool) × Bool × (List (Int × (List Int))) × Int × ((List Int) × Int × Int) × Int × Bool × (List (List Int)))) :=
  bif eqI ((WU64 (o.1)).tmod 6) 0 then
  (law03_full_2 o.2.2.1 o.2.2.2.1).bind fun r =>
  (show Option (((List (Int × (List Int))) × Int × ((List Int) × Int × Int) × Int × Bool × ((List (List Int)) × (List (Int × (List Int))) × Int × ((List Int) × Int × Int) × Int × Bool) × (Int × Int × Int × (List Int) × Bool × ((List Int) × Int × Int)) × Int × Int × Int × Int × Bool × (List Int) × (List (List Int)) × (List (List Int)) × (List (Int × (List Int))) × (List Int))) from
  bif o.2.2.2.2.1 then
  bif Nat.beq (List.length r) (List.length r) then
  appG (List.length r) (List.length ([0] : List Int)) 1 fun _ =>
  bif Nat.beq (List.length (r ++ ([0] : List Int))) (List.length (r ++ ([0] : List Int))) then
  bif Nat.beq (List.length d6) (List.length d6) then
  bif Nat.beq 0 (List.length ([] : List (List Int))) then
  bif Nat.beq 0 (List.length ([] : List (Int × (List Int)))) then
  bif Nat.beq 0 (List.length ([] : List Int)) then
  some ((d, d2, d3, d4, d5, x, o, 0, 0, 0, 0, false, r ++ ([0] : List Int), d6, ([] : List (List Int)), ([] : List (Int × (List Int))), ([] : List Int)))
  else none
  else none
  else none
  else none
  else none
  else none
  else
  bif Nat.beq (List.length r) (List.length r) then
  bif Nat.beq (List.length d6) (List.length d6) then
  bif Nat.beq 0 (List.length ([] : List (List Int))) then
  bif Nat.beq 0 (List.length ([] : List (Int × (List Int)))) then
  bif Nat.beq 0 (List.length ([] : List Int)) then
  some ((d, d2, d3, d4, d5, x, o, 0, 0, 0, 0, false, r, d6, ([] : List (List Int)), ([] : List (Int × (List Int))), ([] : List Int)))
  else none
  else none
  else none
  else none
  else none).bind fun j =>
  bif Nat.beq (List.length j.2.2.2.2.2.2.2.2.2.2.2.2.1) (List.length j.2.2.2.2.2.2.2.2.2.2.2.2.1) then
  bif Nat.beq (List.length j.2.2.2.2.2.2.2.2.2.2.2.2.2.1) (List.length j.2.2.2.2.2.2.2.2.2.2.2.2.2.1) then
  (device_Device_Write_4 j.2.2.2.2.2.2.1.2.1 j.1 j.2.1 j.2.2.1 j.2.2.2.1 j.2.2.2.2.1 j.2.2.2.2.2.2.2.2.2.2.2.2.1 j.2.2.2.2.2.2.2.2.2.2.2.2.2.1).bind fun r2 =>
  winK r2.2.2.2.2.2.2.1 0 (List.length j.2.2.2.2.2.2.2.2.2.2.2.2.1) fun w =>
  (ref03_Put_2 j.2.2.2.2.2.1 j.2.2.2.2.2.2.1.2.1 w).bind fun r3 =>
  shortK (List.length j.2.2.2.2.2.2.2.2.2.2.2.2.1) (
  bif Nat.beq (List.length j.2.2.2.2.2.2.2.2.2.2.2.2.1) (List.length r2.2.2.2.2.2.2.1) then
  bif Nat.beq (List.length r2.2.2.2.2.2.2.2) (List.length r2.2.2.2.2.2.2.2) then
  bif Nat.beq (List.length j.2.2.2.2.2.2.2.2.2.2.2.2.2.2.1) (List.length j.2.2.2.2.2.2.2.2.2.2.2.2.2.2.1) then
  bif Nat.beq (List.length j.2.2.2.2.2.2.2.2.2.2.2.2.2.2.2.1) (List.length j.2.2.2.2.2.2.2.2.2.2.2.2.2.2.2.1) then
  bif Nat.beq (List.length j.2.2.2.2.2.2.2.2.2.2.2.2.2.2.2.2) (List.length j.2.2.2.2.2.2.2.2.2.2.2.2.2.2.2.2) then
  (loopC law03_step_2_l1_0_1_0_1_0_1_1_1_1_0_1_0g (r2.1, r3.2, (List.length j.2.2.2.2.2.2.2.2.2.2.2.2.1 : Nat), 0, r2.2.1, r2.2.2.1, r2.2.2.2.1, r2.2.2.2.2.1, r2.2.2.2.2.2.1, j.2.2.2.2.2.2.2.1, j.2.2.2.2.2.2.2.2.1, j.2.2.2.2.2.2.2.2.2.1, j.2.2.2.2.2.2.2.2.2.2.1, j.2.2.2.2.2.2.2.2.2.2.2.1, r2.2.2.2.2.2.2.1, r3.1, r2.2.2.2.2.2.2.2, j.2.2.2.2.2.2.2.2.2.2.2.2.2.2.1, j.2.2.2.2.2.2.2.2.2.2.2.2.2.2.2.1, j.2.2.2.2.2.2.2.2.2.2.2.2.2.2.2.2)).bind fun o2 =>
  bif Nat.beq (List.length o2.2.2.2.2.2.2.2.2.2.2.2.2.2.1) (List.length o2.2.2.2.2.2.2.2.2.2.2.2.2.2.1) then
  some (o2.2.2.2.2.2.2.2.2.2.2.2.2.1, eqI o2.1 o2.2.1, o2.2.2.1, o2.2.2.2.1, o2.2.2.2.2.1, o2.2.2.2.2.2.1, o2.2.2.2.2.2.2.1, o2.2.2.2.2.2.2.2.2.2.2.2.2.2.1)
  else none
  else none
  else none
  else none
  else none
  else none)
  else none
  else none
  else
  bif eqI ((WU64 (o.1)).tmod 6) 1 then
  bif Nat.beq (List.length d6) (List.length d6) then
  (device_Device_Barrier d d2 d3 d4 d5 d6).bind fun r4 =>
  (ref03_Barrier_2 x).bind fun r5 =>
  bif Nat.beq (List.length r4.2.2.2.2.2.2) (List.length r4.2.2.2.2.2.2) then
  some (r5.1, eqI r4.1 r5.2, r4.2.1, r4.2.2.1, r4.2.2.2.1, r4.2.2.2.2.1, r4.2.2.2.2.2.1, r4.2.2.2.2.2.2)
  else none
  else none
  else
  bif eqI ((WU64 (o.1)).tmod 6) 2 then
  bif Nat.beq (List.length d6) (List.length d6) then
  (device_Device_Read_2 o.2.1 d d2 d3 d4 d5 d6).bind fun r6 =>
  (ref03_Why x o.2.1).bind fun r7 =>
  bif neI r7 0 then
  bif eqI r6.1 r7 then
  shortK (List.length r6.2.2.2.2.2.2.1) (
  bif Nat.beq (List.length r6.2.2.2.2.2.2.2) (List.length r6.2.2.2.2.2.2.2) then
  some (x, eqI (List.length r6.2.2.2.2.2.2.1 : Nat) 0, r6.2.1, r6.2.2.1, r6.2.2.2.1, r6.2.2.2.2.1, r6.2.2.2.2.2.1, r6.2.2.2.2.2.2.2)
  else none)
  else
  bif Nat.beq (List.length r6.2.2.2.2.2.2.2) (List.length r6.2.2.2.2.2.2.2) then
  some (x, false, r6.2.1, r6.2.2.1, r6.2.2.2.1, r6.2.2.2.2.1, r6.2.2.2.2.2.1, r6.2.2.2.2.2.2.2)
  else none
  else
  (show Option ((Bool × (List (Int × (List Int))) × Int × ((List Int) × Int × Int) × Int × Bool × ((List (List Int)) × (List (Int × (List Int))) × Int × ((List Int) × Int × Int) × Int × Bool) × Int × Int × Int × Int × Bool × (List Int) × (List (List Int)) × (List (List Int)) × (List (Int × (List Int))) × (List Int))) from
  bif eqI r6.1 0 then
  winK r6.2.2.2.2.2.2.1 0 (List.length r6.2.2.2.2.2.2.1) fun w2 =>
  (ref03_Now x o.2.1).bind fun r8 =>
  bif Nat.beq (List.length r6.2.2.2.2.2.2.1) (List.length r6.2.2.2.2.2.2.1) then
  bif Nat.beq (List.length r6.2.2.2.2.2.2.2) (List.length r6.2.2.2.2.2.2.2) then
  bif Nat.beq 0 (List.length ([] : List (List Int))) then
  bif Nat.beq 0 (List.length ([] : List (Int × (List Int)))) then
  bif Nat.beq 0 (List.length ([] : List Int)) then
  some ((eqS w2 r8, r6.2.1, r6.2.2.1, r6.2.2.2.1, r6.2.2.2.2.1, r6.2.2.2.2.2.1, x, 0, 0, 0, 0, false, r6.2.2.2.2.2.2.1, r6.2.2.2.2.2.2.2, ([] : List (List Int)), ([] : List (Int × (List Int))), ([] : List Int)))
  else none
  else none
  else none
  else none
  else none
  else
  bif Nat.beq (List.length r6.2.2.2.2.2.2.1) (List.length r6.2.2.2.2.2.2.1) then
  bif Nat.beq (List.length r6.2.2.2.2.2.2.2) (List.length r6.2.2.2.2.2.2.2) then
  bif Nat.beq 0 (List.length ([] : List (List Int))) then
  bif Nat.beq 0 (List.length ([] : List (Int × (List Int)))) then
  bif Nat.beq 0 (List.length ([] : List Int)) then
  some ((false, r6.2.1, r6.2.2.1, r6.2.2.2.1, r6.2.2.2.2.1, r6.2.2.2.2.2.1, x, 0, 0, 0, 0, false, r6.2.2.2.2.2.2.1, r6.2.2.2.2.2.2.2, ([] : List (List Int)), ([] : List (Int × (List Int))), ([] : List Int)))
  else none
  else none
  else none
  else none
  else none).bind fun j2 =>
  shortK (List.length j2.2.2.2.2.2.2.2.2.2.2.2.2.1) (
  bif Nat.beq (List.length j2.2.2.2.2.2.2.2.2.2.2.2.2.1) (List.length j2.2.2.2.2.2.2.2.2.2.2.2.2.1) then
  bif Nat.beq (List.length j2.2.2.2.2.2.2.2.2.2.2.2.2.2.1) (List.length j2.2.2.2.2.2.2.2.2.2.2.2.2.2.1) then
  bif Nat.beq (List.length j2.2.2.2.2.2.2.2.2.2.2.2.2.2.2.1) (List.length j2.2.2.2.2.2.2.2.2.2.2.2.2.2.2.1) then
  bif Nat.beq (List.length j2.2.2.2.2.2.2.2.2.2.2.2.2.2.2.2.1) (List.length j2.2.2.2.2.2.2.2.2.2.2.2.2.2.2.2.1) then
  bif Nat.beq (List.length j2.2.2.2.2.2.2.2.2.2.2.2.2.2.2.2.2) (List.length j2.2.2.2.2.2.2.2.2.2.2.2.2.2.2.2.2) then
  (loopC law03_step_2_l1_0_1_0_1_1_1_1_1_0_1_1_1_0_1_0g (j2.1, (List.length j2.2.2.2.2.2.2.2.2.2.2.2.2.1 : Nat), 0, j2.2.1, j2.2.2.1, j2.2.2.2.1, j2.2.2.2.2.1, j2.2.2.2.2.2.1, j2.2.2.2.2.2.2.1, j2.2.2.2.2.2.2.2.1, j2.2.2.2.2.2.2.2.2.1, j2.2.2.2.2.2.2.2.2.2.1, j2.2.2.2.2.2.2.2.2.2.2.1, j2.2.2.2.2.2.2.2.2.2.2.2.1, j2.2.2.2.2.2.2.2.2.2.2.2.2.1, j2.2.2.2.2.2.2.2.2.2.2.2.2.2.1, j2.2.2.2.2.2.2.2.2.2.2.2.2.2.2.1, j2.2.2.2.2.2.2.2.2.2.2.2.2.2.2.2.1, j2.2.2.2.2.2.2.2.2.2.2.2.2.2.2.2.2)).bind fun o3 =>
  bif Nat.beq (List.length o3.2.2.2.2.2.2.2.2.2.2.2.2.1) (List.length o3.2.2.2.2.2.2.2.2.2.2.2.2.1) then
  some (o3.2.2.2.2.2.2.1, o3.1, o3.2.1, o3.2.2.1, o3.2.2.2.1, o3.2.2.2.2.1, o3.2.2.2.2.2.1, o3.2.2.2.2.2.2.2.2.2.2.2.2.1)
  else none
  else none
  else none
  else none
  else none
  else none)
  else none
  else
  bif eqI ((WU64 (o.1)).tmod 6) 3 then
  bif Nat.beq (List.length d6) (List.length d6) then
  (device_Device_Cut o.2.2.2.2.2 d d2 d3 d4 d5 d6).bind fun r9 =>
  (ref03_Cut x o.2.2.2.2.2).bind fun r10 =>
  bif Nat.beq (List.length r9.2.2.2.2.2) (List.length r9.2.2.2.2.2) then
  some (r10, true, r9.1, r9.2.1, r9.2.2.1, r9.2.2.2.1, r9.2.2.2.2.1, r9.2.2.2.2.2)
  else none
  else none
  else
  bif eqI ((WU64 (o.1)).tmod 6) 4 then
  bif Nat.beq (List.length d6) (List.length d6) then
  (device_Device_On_4 d d2 d3 d4 d5 d6).bind fun r11 =>
  bif Nat.beq (List.length r11.2.2.2.2.2.2) (List.length r11.2.2.2.2.2.2) then
  some ((x.1, x.2.1, x.2.2.1, x.2.2.2.1, x.2.2.2.2.1, false), r11.1 == x.2.2.2.2.2, r11.2.1, r11.2.2.1, r11.2.2.2.1, r11.2.2.2.2.1, r11.2.2.2.2.2.1, r11.2.2.2.2.2.2)
  else none
  else none
  else
  appG (List.length ([] : List Int)) (List.length o.2.2.2.2.2.1) 8 fun _ =>
  bif Nat.beq (List.length o.2.2.2.2.2.1) (List.length o.2.2.2.2.2.1) then
  bif Nat.beq (List.length d6) (List.length d6) then
  (device_Device_Plan_4 o.2.1 o.2.2.2.2.2.2.1 o.2.2.2.2.2.2.2 d d2 d3 d4 d5 o.2.2.2.2.2.1 d6).bind fun r12 =>
  shortK (List.length o.2.2.2.2.2.1) (
  bif Nat.beq (List.length r12.2.2.2.2.2.2) (List.length r12.2.2.2.2.2.2) then
  bif Nat.beq 0 (List.length ([] : List (List Int))) then
  bif Nat.beq 0 (List.length ([] : List (Int × (List Int)))) then
  bif Nat.beq 0 (List.length ([] : List Int)) then
  bif Nat.beq (List.length o.2.2.2.2.2.1) (List.length r12.2.2.2.2.2.1) then
  (loopC law03_step_2_l1_1_1_1_0_1_0g (((List.length o.2.2.2.2.2.1 : Nat), 0, r12.1, r12.2.1, r12.2.2.1, r12.2.2.2.1, r12.2.2.2.2.1, x, o, 0, 0, 0, 0, false, o.2.2.2.2.2.2.1, o.2.2.2.2.2.2.2, r12.2.2.2.2.2.2, ([] : List (List Int)), ([] : List (Int × (List Int))), ([] : List Int), r12.2.2.2.2.2.1))).bind fun o4 =>
  (ref03_Plan_2 o4.2.2.2.2.2.1 o4.2.2.2.2.2.2.1.2.1 o4.2.2.2.2.2.2.1.2.2.2.2.2).bind fun r13 =>
  bif Nat.beq (List.length o4.2.2.2.2.2.2.2.2.2.2.2.2.1) (List.length o4.2.2.2.2.2.2.2.2.2.2.2.2.1) then
  some (r13, true, o4.1, o4.2.1, o4.2.2.1, o4.2.2.2.1, o4.2.2.2.2.1, o4.2.2.2.2.2.2.2.2.2.2.2.2.1)
  else none
  else none
  else none
  else none
  else none
  else none)
  else none
  else none
def law03_step_2_S : Sig := ⟨24, [.pt 0 (.one (.st (.cons .leaf (.cons .leaf (.cons .leaf (.cons (.st (.cons .leaf (.cons .leaf (.one .leaf)))) (.cons .leaf (.one .leaf)))))))) [], .d c7, .d c8], [.var 61 (.ag [.wn 1 c0, .d c1, .d (.int .i64), .d c2, .d (.int .i64), .d .bool]), .row 64 c0], 1, law03_step_2_X⟩
def law03_step_2_fn (x : ((List (List Int)) × (List (Int × (List Int))) × Int × ((List Int) × Int × Int) × Int × Bool) × (Int × Int × Int × (List Int) × Bool × ((List Int) × Int × Int)) × (List (Int × (List Int))) × Int × ((List Int) × Int × Int) × Int × Bool × (List (List Int))) : Option ((((List (List Int)) × (List (Int × (List Int))) × Int × ((List Int) × Int × Int) × Int × Bool) × Bool × (List (Int × (List Int))) × Int × ((List Int) × Int × Int) × Int × Bool × (List (List Int)))) := law03_step_2 x.1 x.2.1 x.2.2.1 x.2.2.2.1 x.2.2.2.2.1 x.2.2.2.2.2.1 x.2.2.2.2.2.2.1 x.2.2.2.2.2.2.2
theorem law03_step_2_ok : FnOK Try.prog law03_step_2_S law03_step_2_fn :=
  fn_ok law03_step_2_env (h := (.two .no (.two (.two .no (.two .no (.two (.two .no (.join (fun _ => law03_step_2_j1_0_1_0_1_0_1) .no (.two .no (.two .no (.two (.two .no (.over (loopD law03_step_2_l1_0_1_0_1_0_1_1_1_1_0_1_0S.xe law03_step_2_l1_0_1_0_1_0_1_1_1_1_0_1_0X (loopC law03_step_2_l1_0_1_0_1_0_1_1_1_1_0_1_0g)))) .no))))) (.two .no (.two .no (.two .no (.two (.two .no (.two .no (.join (fun _ => law03_step_2_j1_0_1_0_1_1_1_1_1_0_1_1) .no (.two (.two .no (.over (loopD law03_step_2_l1_0_1_0_1_1_1_1_1_0_1_1_1_0_1_0S.xe law03_step_2_l1_0_1_0_1_1_1_1_1_0_1_1_1_0_1_0X (loopC law03_step_2_l1_0_1_0_1_1_1_1_1_0_1_1_1_0_1_0g)))) .no)))) .no))))))) (.two (.reg [4] [14]) (.two .no (.two (.two .no (.over (loopD law03_step_2_l1_1_1_1_0_1_0S.xe law03_step_2_l1_1_1_1_0_1_0X (loopC law03_step_2_l1_1_1_1_0_1_0g)))) .no)))))) Try.func24 (hok_of [.xs (fun _ => law03_step_2_j1_0_1_0_1_0_1), .den (.loop (subC (bodyC Try.f24) [1, 0, 1, 0, 1, 0, 1, 1, 1, 1, 0, 1, 0, 0])) (loopD law03_step_2_l1_0_1_0_1_0_1_1_1_1_0_1_0S.xe law03_step_2_l1_0_1_0_1_0_1_1_1_1_0_1_0X (loopC law03_step_2_l1_0_1_0_1_0_1_1_1_1_0_1_0g)), .xs (fun _ => law03_step_2_j1_0_1_0_1_1_1_1_1_0_1_1), .den (.loop (subC (bodyC Try.f24) [1, 0, 1, 0, 1, 1, 1, 1, 1, 0, 1, 1, 1, 0, 1, 0, 0])) (loopD law03_step_2_l1_0_1_0_1_1_1_1_1_0_1_1_1_0_1_0S.xe law03_step_2_l1_0_1_0_1_1_1_1_1_0_1_1_1_0_1_0X (loopC law03_step_2_l1_0_1_0_1_1_1_1_1_0_1_1_1_0_1_0g)), .den (.loop (subC (bodyC Try.f24) [1, 1, 1, 1, 0, 1, 0, 0])) (loopD law03_step_2_l1_1_1_1_0_1_0S.xe law03_step_2_l1_1_1_1_0_1_0X (loopC law03_step_2_l1_1_1_1_0_1_0g))] (by kernel_rfl) ⟨(oneX_ok law03_step_2_j1_0_1_0_1_0_1_ok), law03_step_2_l1_0_1_0_1_0_1_1_1_1_0_1_0_ok, (oneX_ok law03_step_2_j1_0_1_0_1_1_1_1_1_0_1_1_ok), law03_step_2_l1_0_1_0_1_1_1_1_1_0_1_1_1_0_1_0_ok, law03_step_2_l1_1_1_1_0_1_0_ok, trivial⟩) (by kernel_rfl) law03_step_2_X_ok (fun x => by kernel_rfl)

/- wardshiplaw03.step -/
def law03_step_3_V : Env := ⟨[(entQ device_Device_Write_2_S device_Device_Write_2_fn), (entQ ref03_Put_2_S ref03_Put_2_fn), (entQ device_Device_Barrier_2_S device_Device_Barrier_2_fn), (entQ ref03_Barrier_2_S ref03_Barrier_2_fn), (entQ device_Device_Read_3_S device_Device_Read_3_fn), (entQ ref03_Why_S ref03_Why_fn), (entQ ref03_Now_S ref03_Now_fn), (entQ device_Device_Cut_2_S device_Device_Cut_2_fn), (entQ ref03_Cut_S ref03_Cut_fn), (entQ device_Device_On_2_S device_Device_On_2_fn), (entQ device_Device_Plan_S device_Device_Plan_fn), (entQ ref03_Plan_2_S ref03_Plan_2_fn)], [(entP law03_full_2_S law03_full_2_fn)], []⟩
theorem law03_step_3_env : EnvsOK Try.prog law03_step_3_V := ⟨env_cons (entQ_ok device_Device_Write_2_ok) (env_cons (entQ_ok ref03_Put_2_ok) (env_cons (entQ_ok device_Device_Barrier_2_ok) (env_cons (entQ_ok ref03_Barrier_2_ok) (env_cons (entQ_ok device_Device_Read_3_ok) (env_cons (entQ_ok ref03_Why_ok) (env_cons (entQ_ok ref03_Now_ok) (env_cons (entQ_ok device_Device_Cut_2_ok) (env_cons (entQ_ok ref03_Cut_ok) (env_cons (entQ_ok device_Device_On_2_ok) (env_cons (entQ_ok device_Device_Plan_ok) (env_cons (entQ_ok ref03_Plan_2_ok) (env_nil _)))))))))))), fenv_cons (entP_ok law03_full_2_ok) (fenv_nil _), denv_nil _⟩
def law03_step_3_j1_0_1_0_1_0_1K0 : Shp := ⟨186, 0, [(0, .c .nilp), (4, .pt 0 (.one (.st (.cons .leaf (.cons .leaf (.cons .leaf (.cons (.st (.cons .leaf (.cons .leaf (.one .leaf)))) (.cons .leaf (.one .leaf)))))))) []), (5, .pt 1 (.one (.st (.cons .leaf (.cons .leaf (.cons .leaf (.cons .leaf (.cons .leaf (.one (.st (.cons .leaf (.cons .leaf (.one .leaf)))))))))))) []), (6, .pt 2 (.one (.st (.cons .leaf (.cons .leaf (.cons .leaf (.cons (.st (.cons .leaf (.cons .leaf (.one .leaf)))) (.cons .leaf (.one .leaf)))))))) []), (8, .wn 3 (.int .u8))], [.var 52 (.d c7), .var 35 (.d c8), .var 52 (.ag [.wn 4 .str, .wn 5 c6, .d (.int .i64), .ag [.wn 6 (.int .i64), .d (.int .i64), .d (.int .i64)], .d (.int .i64), .d .bool]), .row 5 (.int .u8), .row 9 .str, .row 77 c6, .row 3 (.int .i64)]⟩
def law03_step_3_j1_0_1_0_1_0_1 : XS := .one .normal law03_step_3_j1_0_1_0_1_0_1K0.xe
theorem law03_step_3_j1_0_1_0_1_0_1_ok : law03_step_3_j1_0_1_0_1_0_1.OK := XS.one_ok (shp_ok law03_step_3_j1_0_1_0_1_0_1K0)
def law03_step_3_j1_0_1_0_1_0_1E : Shp := ⟨186, 0, [(0, .c .nilp), (4, .pt 0 (.one (.st (.cons .leaf (.cons .leaf (.cons .leaf (.cons (.st (.cons .leaf (.cons .leaf (.one .leaf)))) (.cons .leaf (.one .leaf)))))))) []), (5, .pt 1 (.one (.st (.cons .leaf (.cons .leaf (.cons .leaf (.cons .leaf (.cons .leaf (.one (.st (.cons .leaf (.cons .leaf (.one .leaf)))))))))))) []), (6, .pt 2 (.one (.st (.cons .leaf (.cons .leaf (.cons .leaf (.cons (.st (.cons .leaf (.cons .leaf (.one .leaf)))) (.cons .leaf (.one .leaf)))))))) []), (8, .wn 3 (.int .u8))], [.var 52 (.d c7), .var 35 (.d c8), .var 52 (.ag [.wn 4 .str, .wn 5 c6, .d (.int .i64), .ag [.wn 6 (.int .i64), .d (.int .i64), .d (.int .i64)], .d (.int .i64), .d .bool]), .row 5 (.int .u8), .row 9 .str, .row 77 c6, .row 3 (.int .i64)]⟩
def law03_step_3_l1_0_1_0_1_0_1_1_1_1_0_1_0XK0 : Shp := ⟨186, 0, [(6, .pt 0 (.one (.st (.cons .leaf (.cons .leaf (.cons .leaf (.cons (.st (.cons .leaf (.cons .leaf (.one .leaf)))) (.cons .leaf (.one .leaf)))))))) []), (9, .d (.int .i64)), (10, .pt 1 (.one (.st (.cons .leaf (.cons .leaf (.cons .leaf (.cons (.st (.cons .leaf (.cons .leaf (.one .leaf)))) (.cons .leaf (.one .leaf)))))))) []), (11, .d (.int .i64))], [.var 52 (.ag [.wn 2 .str, .wn 3 c6, .d (.int .i64), .ag [.wn 4 (.int .i64), .d (.int .i64), .d (.int .i64)], .d (.int .i64), .d .bool]), .var 52 (.d c7), .row 9 .str, .row 77 c6, .row 3 (.int .i64)]⟩
def law03_step_3_l1_0_1_0_1_0_1_1_1_1_0_1_0X : XS := .one (.exit 1) law03_step_3_l1_0_1_0_1_0_1_1_1_1_0_1_0XK0.xe
theorem law03_step_3_l1_0_1_0_1_0_1_1_1_1_0_1_0X_ok : law03_step_3_l1_0_1_0_1_0_1_1_1_1_0_1_0X.OK := XS.one_ok (shp_ok law03_step_3_l1_0_1_0_1_0_1_1_1_1_0_1_0XK0)
def law03_step_3_l1_0_1_0_1_0_1_1_1_1_0_1_0S : Shp := ⟨186, 0, [(6, .pt 0 (.one (.st (.cons .leaf (.cons .leaf (.cons .leaf (.cons (.st (.cons .leaf (.cons .leaf (.one .leaf)))) (.cons .leaf (.one .leaf)))))))) []), (8, .wn 1 (.int .u8)), (9, .d (.int .i64)), (10, .pt 2 (.one (.st (.cons .leaf (.cons .leaf (.cons .leaf (.cons (.st (.cons .leaf (.cons .leaf (.one .leaf)))) (.cons .leaf (.one .leaf)))))))) []), (11, .d (.int .i64)), (55, .d (.int .i64)), (56, .d (.int .i64))], [.var 52 (.ag [.wn 3 .str, .wn 4 c6, .d (.int .i64), .ag [.wn 5 (.int .i64), .d (.int .i64), .d (.int .i64)], .d (.int .i64), .d .bool]), .row 5 (.int .u8), .var 52 (.d c7), .row 9 .str, .row 77 c6, .row 3 (.int .i64)]⟩
def law03_step_3_l1_0_1_0_1_0_1_1_1_1_0_1_0r (t9 : Int) (f : Int) (t55 : Int) (t56 : Int) (t6 : Int) (t62 : Int) (t63 : Int) (t64 : Int) (t65 : Bool) (b : List Int) (y : (List (List Int)) × (List (Int × (List Int))) × Int × ((List Int) × Int × Int) × Int × Bool) (t66 : List (List Int)) (t67 : List (Int × (List Int))) (t68 : List Int) : Option ((Int × Int × Int × Int × Int × Int × Int × Int × Bool × (List Int) × ((List (List Int)) × (List (Int × (List Int))) × Int × ((List Int) × Int × Int) × Int × Bool) × (List (List Int)) × (List (Int × (List Int))) × (List Int)) ⊕ ((Int × Int × Int × Int × Int × Int × Bool × ((List (List Int)) × (List (Int × (List Int))) × Int × ((List Int) × Int × Int) × Int × Bool) × (List (List Int)) × (List (Int × (List Int))) × (List Int)))) :=
  bif ltI t56 t55 then
  bif inI t56 (List.length b) then
  (b[t56.toNat]?).bind fun x =>
  bif inI t56 (List.length b) then
  (b[t56.toNat]?).bind fun _x =>
  bif Nat.beq (List.length b) (List.length (b.set t56.toNat (WU8 (x + 1)))) then
  bif Nat.beq (List.length t66) (List.length t66) then
  bif Nat.beq (List.length t67) (List.length t67) then
  bif Nat.beq (List.length t68) (List.length t68) then
  some (.inl (t9, f, t55, W64 (t56 + 1), t6, t62, t63, t64, t65, b.set t56.toNat (WU8 (x + 1)), y, t66, t67, t68))
  else none
  else none
  else none
  else none
  else none
  else none
  else
  bif Nat.beq (List.length t66) (List.length t66) then
  bif Nat.beq (List.length t67) (List.length t67) then
  bif Nat.beq (List.length t68) (List.length t68) then
  some (.inr (t9, f, t6, t62, t63, t64, t65, y, t66, t67, t68))
  else none
  else none
  else none
def law03_step_3_l1_0_1_0_1_0_1_1_1_1_0_1_0g (s : Int × Int × Int × Int × Int × Int × Int × Int × Bool × (List Int) × ((List (List Int)) × (List (Int × (List Int))) × Int × ((List Int) × Int × Int) × Int × Bool) × (List (List Int)) × (List (Int × (List Int))) × (List Int)) : Option ((Int × Int × Int × Int × Int × Int × Int × Int × Bool × (List Int) × ((List (List Int)) × (List (Int × (List Int))) × Int × ((List Int) × Int × Int) × Int × Bool) × (List (List Int)) × (List (Int × (List Int))) × (List Int)) ⊕ ((Int × Int × Int × Int × Int × Int × Bool × ((List (List Int)) × (List (Int × (List Int))) × Int × ((List Int) × Int × Int) × Int × Bool) × (List (List Int)) × (List (Int × (List Int))) × (List Int)))) := law03_step_3_l1_0_1_0_1_0_1_1_1_1_0_1_0r s.1 s.2.1 s.2.2.1 s.2.2.2.1 s.2.2.2.2.1 s.2.2.2.2.2.1 s.2.2.2.2.2.2.1 s.2.2.2.2.2.2.2.1 s.2.2.2.2.2.2.2.2.1 s.2.2.2.2.2.2.2.2.2.1 s.2.2.2.2.2.2.2.2.2.2.1 s.2.2.2.2.2.2.2.2.2.2.2.1 s.2.2.2.2.2.2.2.2.2.2.2.2.1 s.2.2.2.2.2.2.2.2.2.2.2.2.2
theorem law03_step_3_l1_0_1_0_1_0_1_1_1_1_0_1_0_ok : SoundD Try.prog (.loop (subC (bodyC Try.f24) [1, 0, 1, 0, 1, 0, 1, 1, 1, 1, 0, 1, 0, 0])) (loopD law03_step_3_l1_0_1_0_1_0_1_1_1_1_0_1_0S.xe law03_step_3_l1_0_1_0_1_0_1_1_1_1_0_1_0X (loopC law03_step_3_l1_0_1_0_1_0_1_1_1_1_0_1_0g)) :=
  loop_sound (S := law03_step_3_l1_0_1_0_1_0_1_1_1_1_0_1_0S.xe) (X := law03_step_3_l1_0_1_0_1_0_1_1_1_1_0_1_0X) law03_step_3_env (h := .no) (hok_of [] (by kernel_rfl) trivial) (shp_ok law03_step_3_l1_0_1_0_1_0_1_1_1_1_0_1_0S) law03_step_3_l1_0_1_0_1_0_1_1_1_1_0_1_0X_ok law03_step_3_l1_0_1_0_1_0_1_1_1_1_0_1_0g (fun s => by kernel_rfl)
def law03_step_3_j1_0_1_0_1_1_1_1_1_0_1_1K0 : Shp := ⟨186, 0, [(4, .pt 0 (.one (.st (.cons .leaf (.cons .leaf (.cons .leaf (.cons (.st (.cons .leaf (.cons .leaf (.one .leaf)))) (.cons .leaf (.one .leaf)))))))) []), (6, .pt 1 (.one (.st (.cons .leaf (.cons .leaf (.cons .leaf (.cons (.st (.cons .leaf (.cons .leaf (.one .leaf)))) (.cons .leaf (.one .leaf)))))))) []), (16, .d (.sl (.int .u8))), (19, .d .bool)], [.var 52 (.d c7), .var 52 (.ag [.wn 2 .str, .wn 3 c6, .d (.int .i64), .ag [.wn 4 (.int .i64), .d (.int .i64), .d (.int .i64)], .d (.int .i64), .d .bool]), .row 9 .str, .row 77 c6, .row 3 (.int .i64)]⟩
def law03_step_3_j1_0_1_0_1_1_1_1_1_0_1_1 : XS := .one .normal law03_step_3_j1_0_1_0_1_1_1_1_1_0_1_1K0.xe
theorem law03_step_3_j1_0_1_0_1_1_1_1_1_0_1_1_ok : law03_step_3_j1_0_1_0_1_1_1_1_1_0_1_1.OK := XS.one_ok (shp_ok law03_step_3_j1_0_1_0_1_1_1_1_1_0_1_1K0)
def law03_step_3_j1_0_1_0_1_1_1_1_1_0_1_1E : Shp := ⟨186, 0, [(4, .pt 0 (.one (.st (.cons .leaf (.cons .leaf (.cons .leaf (.cons (.st (.cons .leaf (.cons .leaf (.one .leaf)))) (.cons .leaf (.one .leaf)))))))) []), (5, .pt 1 (.one (.st (.cons .leaf (.cons .leaf (.cons .leaf (.cons .leaf (.cons .leaf (.one (.st (.cons .leaf (.cons .leaf (.one .leaf)))))))))))) []), (6, .pt 2 (.one (.st (.cons .leaf (.cons .leaf (.cons .leaf (.cons (.st (.cons .leaf (.cons .leaf (.one .leaf)))) (.cons .leaf (.one .leaf)))))))) []), (16, .d (.sl (.int .u8))), (17, .d (.int .i64))], [.var 52 (.d c7), .var 35 (.d c8), .var 52 (.ag [.wn 3 .str, .wn 4 c6, .d (.int .i64), .ag [.wn 5 (.int .i64), .d (.int .i64), .d (.int .i64)], .d (.int .i64), .d .bool]), .row 9 .str, .row 77 c6, .row 3 (.int .i64)]⟩
def law03_step_3_l1_0_1_0_1_1_1_1_1_0_1_1_1_0_1_0XK0 : Shp := ⟨186, 0, [(4, .pt 0 (.one (.st (.cons .leaf (.cons .leaf (.cons .leaf (.cons (.st (.cons .leaf (.cons .leaf (.one .leaf)))) (.cons .leaf (.one .leaf)))))))) []), (6, .pt 1 (.one (.st (.cons .leaf (.cons .leaf (.cons .leaf (.cons (.st (.cons .leaf (.cons .leaf (.one .leaf)))) (.cons .leaf (.one .leaf)))))))) []), (19, .d .bool)], [.var 52 (.d c7), .var 52 (.ag [.wn 2 .str, .wn 3 c6, .d (.int .i64), .ag [.wn 4 (.int .i64), .d (.int .i64), .d (.int .i64)], .d (.int .i64), .d .bool]), .row 9 .str, .row 77 c6, .row 3 (.int .i64)]⟩
def law03_step_3_l1_0_1_0_1_1_1_1_1_0_1_1_1_0_1_0X : XS := .one (.exit 3) law03_step_3_l1_0_1_0_1_1_1_1_1_0_1_1_1_0_1_0XK0.xe
theorem law03_step_3_l1_0_1_0_1_1_1_1_1_0_1_1_1_0_1_0X_ok : law03_step_3_l1_0_1_0_1_1_1_1_1_0_1_1_1_0_1_0X.OK := XS.one_ok (shp_ok law03_step_3_l1_0_1_0_1_1_1_1_1_0_1_1_1_0_1_0XK0)
def law03_step_3_l1_0_1_0_1_1_1_1_1_0_1_1_1_0_1_0S : Shp := ⟨186, 0, [(4, .pt 0 (.one (.st (.cons .leaf (.cons .leaf (.cons .leaf (.cons (.st (.cons .leaf (.cons .leaf (.one .leaf)))) (.cons .leaf (.one .leaf)))))))) []), (6, .pt 1 (.one (.st (.cons .leaf (.cons .leaf (.cons .leaf (.cons (.st (.cons .leaf (.cons .leaf (.one .leaf)))) (.cons .leaf (.one .leaf)))))))) []), (16, .d (.sl (.int .u8))), (19, .d .bool), (119, .d (.int .i64)), (120, .d (.int .i64))], [.var 52 (.d c7), .var 52 (.ag [.wn 2 .str, .wn 3 c6, .d (.int .i64), .ag [.wn 4 (.int .i64), .d (.int .i64), .d (.int .i64)], .d (.int .i64), .d .bool]), .row 9 .str, .row 77 c6, .row 3 (.int .i64)]⟩
def law03_step_3_l1_0_1_0_1_1_1_1_1_0_1_1_1_0_1_0r (b : List Int) (ok : Bool) (t119 : Int) (t120 : Int) (x : (List (List Int)) × (List (Int × (List Int))) × Int × ((List Int) × Int × Int) × Int × Bool) (t6 : Int) (t62 : Int) (t63 : Int) (t64 : Int) (t65 : Bool) (t66 : List (List Int)) (t67 : List (Int × (List Int))) (t68 : List Int) : Option (((List Int) × Bool × Int × Int × ((List (List Int)) × (List (Int × (List Int))) × Int × ((List Int) × Int × Int) × Int × Bool) × Int × Int × Int × Int × Bool × (List (List Int)) × (List (Int × (List Int))) × (List Int)) ⊕ ((Bool × ((List (List Int)) × (List (Int × (List Int))) × Int × ((List Int) × Int × Int) × Int × Bool) × Int × Int × Int × Int × Bool × (List (List Int)) × (List (Int × (List Int))) × (List Int)))) :=
  bif ltI t120 t119 then
  (idxI b t120).bind fun x2 =>
  (idxI b t120).bind fun x3 =>
  none
  else
  bif Nat.beq (List.length t66) (List.length t66) then
  bif Nat.beq (List.length t67) (List.length t67) then
  bif Nat.beq (List.length t68) (List.length t68) then
  some (.inr (ok, x, t6, t62, t63, t64, t65, t66, t67, t68))
  else none
  else none
  else none
def law03_step_3_l1_0_1_0_1_1_1_1_1_0_1_1_1_0_1_0g (s : (List Int) × Bool × Int × Int × ((List (List Int)) × (List (Int × (List Int))) × Int × ((List Int) × Int × Int) × Int × Bool) × Int × Int × Int × Int × Bool × (List (List Int)) × (List (Int × (List Int))) × (List Int)) : Option (((List Int) × Bool × Int × Int × ((List (List Int)) × (List (Int × (List Int))) × Int × ((List Int) × Int × Int) × Int × Bool) × Int × Int × Int × Int × Bool × (List (List Int)) × (List (Int × (List Int))) × (List Int)) ⊕ ((Bool × ((List (List Int)) × (List (Int × (List Int))) × Int × ((List Int) × Int × Int) × Int × Bool) × Int × Int × Int × Int × Bool × (List (List Int)) × (List (Int × (List Int))) × (List Int)))) := law03_step_3_l1_0_1_0_1_1_1_1_1_0_1_1_1_0_1_0r s.1 s.2.1 s.2.2.1 s.2.2.2.1 s.2.2.2.2.1 s.2.2.2.2.2.1 s.2.2.2.2.2.2.1 s.2.2.2.2.2.2.2.1 s.2.2.2.2.2.2.2.2.1 s.2.2.2.2.2.2.2.2.2.1 s.2.2.2.2.2.2.2.2.2.2.1 s.2.2.2.2.2.2.2.2.2.2.2.1 s.2.2.2.2.2.2.2.2.2.2.2.2
theorem law03_step_3_l1_0_1_0_1_1_1_1_1_0_1_1_1_0_1_0_ok : SoundD Try.prog (.loop (subC (bodyC Try.f24) [1, 0, 1, 0, 1, 1, 1, 1, 1, 0, 1, 1, 1, 0, 1, 0, 0])) (loopD law03_step_3_l1_0_1_0_1_1_1_1_1_0_1_1_1_0_1_0S.xe law03_step_3_l1_0_1_0_1_1_1_1_1_0_1_1_1_0_1_0X (loopC law03_step_3_l1_0_1_0_1_1_1_1_1_0_1_1_1_0_1_0g)) :=
  loop_sound (S := law03_step_3_l1_0_1_0_1_1_1_1_1_0_1_1_1_0_1_0S.xe) (X := law03_step_3_l1_0_1_0_1_1_1_1_1_0_1_1_1_0_1_0X) law03_step_3_env (h := .no) (hok_of [] (by kernel_rfl) trivial) (shp_ok law03_step_3_l1_0_1_0_1_1_1_1_1_0_1_1_1_0_1_0S) law03_step_3_l1_0_1_0_1_1_1_1_1_0_1_1_1_0_1_0X_ok law03_step_3_l1_0_1_0_1_1_1_1_1_0_1_1_1_0_1_0g (fun s => by kernel_rfl)
def law03_step_3_l1_1_1_1_0_1_0XK0 : Shp := ⟨186, 0, [(4, .pt 0 (.one (.st (.cons .leaf (.cons .leaf (.cons .leaf (.cons (.st (.cons .leaf (.cons .leaf (.one .leaf)))) (.cons .leaf (.one .leaf)))))))) []), (5, .pt 1 (.one (.st (.cons .leaf (.cons .leaf (.cons .leaf (.cons .leaf (.cons .leaf (.one (.st (.cons .leaf (.cons .leaf (.one .leaf)))))))))))) []), (6, .pt 2 (.one (.st (.cons .leaf (.cons .leaf (.cons .leaf (.cons (.st (.cons .leaf (.cons .leaf (.one .leaf)))) (.cons .leaf (.one .leaf)))))))) [])], [.var 52 (.d c7), .var 35 (.d c8), .var 52 (.ag [.wn 3 .str, .wn 4 c6, .d (.int .i64), .ag [.wn 5 (.int .i64), .d (.int .i64), .d (.int .i64)], .d (.int .i64), .d .bool]), .row 9 .str, .row 77 c6, .row 3 (.int .i64)]⟩
def law03_step_3_l1_1_1_1_0_1_0X : XS := .one (.exit 5) law03_step_3_l1_1_1_1_0_1_0XK0.xe
theorem law03_step_3_l1_1_1_1_0_1_0X_ok : law03_step_3_l1_1_1_1_0_1_0X.OK := XS.one_ok (shp_ok law03_step_3_l1_1_1_1_0_1_0XK0)
def law03_step_3_l1_1_1_1_0_1_0S : Shp := ⟨186, 0, [(4, .pt 0 (.one (.st (.cons .leaf (.cons .leaf (.cons .leaf (.cons (.st (.cons .leaf (.cons .leaf (.one .leaf)))) (.cons .leaf (.one .leaf)))))))) []), (5, .pt 1 (.one (.st (.cons .leaf (.cons .leaf (.cons .leaf (.cons .leaf (.cons .leaf (.one (.st (.cons .leaf (.cons .leaf (.one .leaf)))))))))))) []), (6, .pt 2 (.one (.st (.cons .leaf (.cons .leaf (.cons .leaf (.cons (.st (.cons .leaf (.cons .leaf (.one .leaf)))) (.cons .leaf (.one .leaf)))))))) []), (22, .pt 3 (.one (.st (.cons .leaf (.cons .leaf (.one .leaf))))) []), (171, .d (.int .i64)), (172, .d (.int .i64))], [.var 52 (.d c7), .var 35 (.d c8), .var 52 (.ag [.wn 4 .str, .wn 5 c6, .d (.int .i64), .ag [.wn 6 (.int .i64), .d (.int .i64), .d (.int .i64)], .d (.int .i64), .d .bool]), .var 25 (.ag [.wn 7 (.int .i64), .d (.int .i64), .d (.int .i64)]), .row 9 .str, .row 77 c6, .row 3 (.int .i64), .row 3 (.int .i64)]⟩
def law03_step_3_l1_1_1_1_0_1_0r (t171 : Int) (t172 : Int) (x : (List (List Int)) × (List (Int × (List Int))) × Int × ((List Int) × Int × Int) × Int × Bool) (o : Int × Int × Int × (List Int) × Bool × ((List Int) × Int × Int)) (t6 : Int) (t62 : Int) (t63 : Int) (t64 : Int) (t65 : Bool) (c : Int) (c2 : Int) (t66 : List (List Int)) (t67 : List (Int × (List Int))) (t68 : List Int) (c3 : List Int) : Option ((Int × Int × ((List (List Int)) × (List (Int × (List Int))) × Int × ((List Int) × Int × Int) × Int × Bool) × (Int × Int × Int × (List Int) × Bool × ((List Int) × Int × Int)) × Int × Int × Int × Int × Bool × Int × Int × (List (List Int)) × (List (Int × (List Int))) × (List Int) × (List Int)) ⊕ ((((List (List Int)) × (List (Int × (List Int))) × Int × ((List Int) × Int × Int) × Int × Bool) × (Int × Int × Int × (List Int) × Bool × ((List Int) × Int × Int)) × Int × Int × Int × Int × Bool × (List (List Int)) × (List (Int × (List Int))) × (List Int)))) :=
  bif ltI t172 t171 then
  bif inI t172 (List.length c3) then
  (c3[t172.toNat]?).bind fun _x =>
  bif Nat.beq (List.length t66) (List.length t66) then
  bif Nat.beq (List.length t67) (List.length t67) then
  bif Nat.beq (List.length t68) (List.length t68) then
  bif Nat.beq (List.length c3) (List.length (c3.set t172.toNat 0)) then
  some (.inl (t171, W64 (t172 + 1), x, o, t6, t62, t63, t64, t65, c, c2, t66, t67, t68, c3.set t172.toNat 0))
  else none
  else none
  else none
  else none
  else none
  else
  bif Nat.beq (List.length t66) (List.length t66) then
  bif Nat.beq (List.length t67) (List.length t67) then
  bif Nat.beq (List.length t68) (List.length t68) then
  some (.inr (x, o, t6, t62, t63, t64, t65, t66, t67, t68))
  else none
  else none
  else none
def law03_step_3_l1_1_1_1_0_1_0g (s : Int × Int × ((List (List Int)) × (List (Int × (List Int))) × Int × ((List Int) × Int × Int) × Int × Bool) × (Int × Int × Int × (List Int) × Bool × ((List Int) × Int × Int)) × Int × Int × Int × Int × Bool × Int × Int × (List (List Int)) × (List (Int × (List Int))) × (List Int) × (List Int)) : Option ((Int × Int × ((List (List Int)) × (List (Int × (List Int))) × Int × ((List Int) × Int × Int) × Int × Bool) × (Int × Int × Int × (List Int) × Bool × ((List Int) × Int × Int)) × Int × Int × Int × Int × Bool × Int × Int × (List (List Int)) × (List (Int × (List Int))) × (List Int) × (List Int)) ⊕ ((((List (List Int)) × (List (Int × (List Int))) × Int × ((List Int) × Int × Int) × Int × Bool) × (Int × Int × Int × (List Int) × Bool × ((List Int) × Int × Int)) × Int × Int × Int × Int × Bool × (List (List Int)) × (List (Int × (List Int))) × (List Int)))) := law03_step_3_l1_1_1_1_0_1_0r s.1 s.2.1 s.2.2.1 s.2.2.2.1 s.2.2.2.2.1 s.2.2.2.2.2.1 s.2.2.2.2.2.2.1 s.2.2.2.2.2.2.2.1 s.2.2.2.2.2.2.2.2.1 s.2.2.2.2.2.2.2.2.2.1 s.2.2.2.2.2.2.2.2.2.2.1 s.2.2.2.2.2.2.2.2.2.2.2.1 s.2.2.2.2.2.2.2.2.2.2.2.2.1 s.2.2.2.2.2.2.2.2.2.2.2.2.2.1 s.2.2.2.2.2.2.2.2.2.2.2.2.2.2
theorem law03_step_3_l1_1_1_1_0_1_0_ok : SoundD Try.prog (.loop (subC (bodyC Try.f24) [1, 1, 1, 1, 0, 1, 0, 0])) (loopD law03_step_3_l1_1_1_1_0_1_0S.xe law03_step_3_l1_1_1_1_0_1_0X (loopC law03_step_3_l1_1_1_1_0_1_0g)) :=
  loop_sound (S := law03_step_3_l1_1_1_1_0_1_0S.xe) (X := law03_step_3_l1_1_1_1_0_1_0X) law03_step_3_env (h := .no) (hok_of [] (by kernel_rfl) trivial) (shp_ok law03_step_3_l1_1_1_1_0_1_0S) law03_step_3_l1_1_1_1_0_1_0X_ok law03_step_3_l1_1_1_1_0_1_0g (fun s => by kernel_rfl)
def law03_step_3_XK0 : Shp := ⟨1, 0, [(0, .tu [.d c7, .d .bool])], []⟩
def law03_step_3_X : XS := .one .ret law03_step_3_XK0.xe
theorem law03_step_3_X_ok : law03_step_3_X.OK := XS.one_ok (shp_ok law03_step_3_XK0)
def law03_step_3 (x : (List (List Int)) × (List (Int × (List Int))) × Int × ((List Int) × Int × Int) × Int × Bool) (o : Int × Int × Int × (List Int) × Bool × ((List Int) × Int × Int)) : Option ((((List (List Int)) × (List (Int × (List Int))) × Int × ((List Int) × Int × Int) × Int × Bool) × Bool)) :=
  bif eqI ((WU64 (o.1)).tmod 6) 0 then
  (law03_full_2 o.2.2.1 o.2.2.2.1).bind fun r =>
  (show Option ((((List (List Int)) × (List (Int × (List Int))) × Int × ((List Int) × Int × Int) × Int × Bool) × (Int × Int × Int × (List Int) × Bool × ((List Int) × Int × Int)) × Int × Int × Int × Int × Bool × (List Int) × (List (List Int)) × (List (Int × (List Int))) × (List Int))) from
  bif o.2.2.2.2.1 then
  bif Nat.beq (List.length r) (List.length r) then
  appG (List.length r) (List.length ([0] : List Int)) 1 fun _ =>
  bif Nat.beq (List.length (r ++ ([0] : List Int))) (List.length (r ++ ([0] : List Int))) then
  bif Nat.beq 0 (List.length ([] : List (List Int))) then
  bif Nat.beq 0 (List.length ([] : List (Int × (List Int)))) then
  bif Nat.beq 0 (List.length ([] : List Int)) then
  some ((x, o, 0, 0, 0, 0, false, r ++ ([0] : List Int), ([] : List (List Int)), ([] : List (Int × (List Int))), ([] : List Int)))
  else none
  else none
  else none
  else none
  else none
  else
  bif Nat.beq (List.length r) (List.length r) then
  bif Nat.beq 0 (List.length ([] : List (List Int))) then
  bif Nat.beq 0 (List.length ([] : List (Int × (List Int)))) then
  bif Nat.beq 0 (List.length ([] : List Int)) then
  some ((x, o, 0, 0, 0, 0, false, r, ([] : List (List Int)), ([] : List (Int × (List Int))), ([] : List Int)))
  else none
  else none
  else none
  else none).bind fun j =>
  winK j.2.2.2.2.2.2.2.1 0 (List.length j.2.2.2.2.2.2.2.1) fun w =>
  (device_Device_Write_2 j.2.1.2.1 w).bind fun r2 =>
  winK j.2.2.2.2.2.2.2.1 0 (List.length j.2.2.2.2.2.2.2.1) fun w2 =>
  (ref03_Put_2 j.1 j.2.1.2.1 w2).bind fun r3 =>
  shortK (List.length j.2.2.2.2.2.2.2.1) (
  bif Nat.beq (List.length j.2.2.2.2.2.2.2.1) (List.length j.2.2.2.2.2.2.2.1) then
  bif Nat.beq (List.length j.2.2.2.2.2.2.2.2.1) (List.length j.2.2.2.2.2.2.2.2.1) then
  bif Nat.beq (List.length j.2.2.2.2.2.2.2.2.2.1) (List.length j.2.2.2.2.2.2.2.2.2.1) then
  bif Nat.beq (List.length j.2.2.2.2.2.2.2.2.2.2) (List.length j.2.2.2.2.2.2.2.2.2.2) then
  (loopC law03_step_3_l1_0_1_0_1_0_1_1_1_1_0_1_0g (r2, r3.2, (List.length j.2.2.2.2.2.2.2.1 : Nat), 0, j.2.2.1, j.2.2.2.1, j.2.2.2.2.1, j.2.2.2.2.2.1, j.2.2.2.2.2.2.1, j.2.2.2.2.2.2.2.1, r3.1, j.2.2.2.2.2.2.2.2.1, j.2.2.2.2.2.2.2.2.2.1, j.2.2.2.2.2.2.2.2.2.2)).bind fun o2 =>
  some (o2.2.2.2.2.2.2.2.1, eqI o2.1 o2.2.1)
  else none
  else none
  else none
  else none)
  else
  bif eqI ((WU64 (o.1)).tmod 6) 1 then
  (device_Device_Barrier_2).bind fun r4 =>
  (ref03_Barrier_2 x).bind fun r5 =>
  some (r5.1, eqI r4 r5.2)
  else
  bif eqI ((WU64 (o.1)).tmod 6) 2 then
  (device_Device_Read_3 o.2.1).bind fun r6 =>
  (ref03_Why x o.2.1).bind fun r7 =>
  bif neI r7 0 then
  bif eqI r6.2 r7 then
  shortK (List.length r6.1) (
  some (x, eqI (List.length r6.1 : Nat) 0))
  else
  some (x, false)
  else
  (show Option (((List Int) × Bool × ((List (List Int)) × (List (Int × (List Int))) × Int × ((List Int) × Int × Int) × Int × Bool) × Int × Int × Int × Int × Bool × (List (List Int)) × (List (Int × (List Int))) × (List Int))) from
  bif eqI r6.2 0 then
  (ref03_Now x o.2.1).bind fun r8 =>
  bif Nat.beq 0 (List.length ([] : List (List Int))) then
  bif Nat.beq 0 (List.length ([] : List (Int × (List Int)))) then
  bif Nat.beq 0 (List.length ([] : List Int)) then
  some ((r6.1, eqS r6.1 r8, x, 0, 0, 0, 0, false, ([] : List (List Int)), ([] : List (Int × (List Int))), ([] : List Int)))
  else none
  else none
  else none
  else
  bif Nat.beq 0 (List.length ([] : List (List Int))) then
  bif Nat.beq 0 (List.length ([] : List (Int × (List Int)))) then
  bif Nat.beq 0 (List.length ([] : List Int)) then
  some ((r6.1, false, x, 0, 0, 0, 0, false, ([] : List (List Int)), ([] : List (Int × (List Int))), ([] : List Int)))
  else none
  else none
  else none).bind fun j2 =>
  shortK (List.length j2.1) (
  bif Nat.beq (List.length j2.2.2.2.2.2.2.2.2.1) (List.length j2.2.2.2.2.2.2.2.2.1) then
  bif Nat.beq (List.length j2.2.2.2.2.2.2.2.2.2.1) (List.length j2.2.2.2.2.2.2.2.2.2.1) then
  bif Nat.beq (List.length j2.2.2.2.2.2.2.2.2.2.2) (List.length j2.2.2.2.2.2.2.2.2.2.2) then
  (loopC law03_step_3_l1_0_1_0_1_1_1_1_1_0_1_1_1_0_1_0g (j2.1, j2.2.1, (List.length j2.1 : Nat), 0, j2.2.2.1, j2.2.2.2.1, j2.2.2.2.2.1, j2.2.2.2.2.2.1, j2.2.2.2.2.2.2.1, j2.2.2.2.2.2.2.2.1, j2.2.2.2.2.2.2.2.2.1, j2.2.2.2.2.2.2.2.2.2.1, j2.2.2.2.2.2.2.2.2.2.2)).bind fun o3 =>
  some (o3.2.1, o3.1)
  else none
  else none
  else none)
  else
  bif eqI ((WU64 (o.1)).tmod 6) 3 then
  (device_Device_Cut_2 o.2.2.2.2.2).bind fun r9 =>
  (ref03_Cut x o.2.2.2.2.2).bind fun r10 =>
  some (r10, true)
  else
  bif eqI ((WU64 (o.1)).tmod 6) 4 then
  (device_Device_On_2).bind fun r11 =>
  some ((x.1, x.2.1, x.2.2.1, x.2.2.2.1, x.2.2.2.2.1, false), r11 == x.2.2.2.2.2)
  else
  appG (List.length ([] : List Int)) (List.length o.2.2.2.2.2.1) 8 fun _ =>
  winK o.2.2.2.2.2.1 0 (List.length o.2.2.2.2.2.1) fun w3 =>
  (device_Device_Plan o.2.1 (w3, o.2.2.2.2.2.2.1, o.2.2.2.2.2.2.2)).bind fun r12 =>
  shortK (List.length o.2.2.2.2.2.1) (
  bif Nat.beq 0 (List.length ([] : List (List Int))) then
  bif Nat.beq 0 (List.length ([] : List (Int × (List Int)))) then
  bif Nat.beq 0 (List.length ([] : List Int)) then
  bif Nat.beq (List.length o.2.2.2.2.2.1) (List.length o.2.2.2.2.2.1) then
  (loopC law03_step_3_l1_1_1_1_0_1_0g (((List.length o.2.2.2.2.2.1 : Nat), 0, x, o, 0, 0, 0, 0, false, o.2.2.2.2.2.2.1, o.2.2.2.2.2.2.2, ([] : List (List Int)), ([] : List (Int × (List Int))), ([] : List Int), o.2.2.2.2.2.1))).bind fun o4 =>
  (ref03_Plan_2 o4.1 o4.2.1.2.1 o4.2.1.2.2.2.2.2).bind fun r13 =>
  some (r13, true)
  else none
  else none
  else none
  else none)
def law03_step_3_S : Sig := ⟨24, [.c .nilp, .d c7, .d c8], [], 0, law03_step_3_X⟩
def law03_step_3_fn (x : ((List (List Int)) × (List (Int × (List Int))) × Int × ((List Int) × Int × Int) × Int × Bool) × (Int × Int × Int × (List Int) × Bool × ((List Int) × Int × Int))) : Option ((((List (List Int)) × (List (Int × (List Int))) × Int × ((List Int) × Int × Int) × Int × Bool) × Bool)) := law03_step_3 x.1 x.2
theorem law03_step_3_ok : FnOK Try.prog law03_step_3_S law03_step_3_fn :=
  fn_ok law03_step_3_env (h := (.two .no (.two (.two .no (.two .no (.two (.two .no (.join (fun _ => law03_step_3_j1_0_1_0_1_0_1) .no (.two .no (.two .no (.two (.two .no (.over (loopD law03_step_3_l1_0_1_0_1_0_1_1_1_1_0_1_0S.xe law03_step_3_l1_0_1_0_1_0_1_1_1_1_0_1_0X (loopC law03_step_3_l1_0_1_0_1_0_1_1_1_1_0_1_0g)))) .no))))) (.two .no (.two .no (.two .no (.two (.two .no (.two .no (.join (fun _ => law03_step_3_j1_0_1_0_1_1_1_1_1_0_1_1) .no (.two (.two .no (.over (loopD law03_step_3_l1_0_1_0_1_1_1_1_1_0_1_1_1_0_1_0S.xe law03_step_3_l1_0_1_0_1_1_1_1_1_0_1_1_1_0_1_0X (loopC law03_step_3_l1_0_1_0_1_1_1_1_1_0_1_1_1_0_1_0g)))) .no)))) .no))))))) (.two (.reg [4] [14]) (.two .no (.two (.two .no (.over (loopD law03_step_3_l1_1_1_1_0_1_0S.xe law03_step_3_l1_1_1_1_0_1_0X (loopC law03_step_3_l1_1_1_1_0_1_0g)))) .no)))))) Try.func24 (hok_of [.xs (fun _ => law03_step_3_j1_0_1_0_1_0_1), .den (.loop (subC (bodyC Try.f24) [1, 0, 1, 0, 1, 0, 1, 1, 1, 1, 0, 1, 0, 0])) (loopD law03_step_3_l1_0_1_0_1_0_1_1_1_1_0_1_0S.xe law03_step_3_l1_0_1_0_1_0_1_1_1_1_0_1_0X (loopC law03_step_3_l1_0_1_0_1_0_1_1_1_1_0_1_0g)), .xs (fun _ => law03_step_3_j1_0_1_0_1_1_1_1_1_0_1_1), .den (.loop (subC (bodyC Try.f24) [1, 0, 1, 0, 1, 1, 1, 1, 1, 0, 1, 1, 1, 0, 1, 0, 0])) (loopD law03_step_3_l1_0_1_0_1_1_1_1_1_0_1_1_1_0_1_0S.xe law03_step_3_l1_0_1_0_1_1_1_1_1_0_1_1_1_0_1_0X (loopC law03_step_3_l1_0_1_0_1_1_1_1_1_0_1_1_1_0_1_0g)), .den (.loop (subC (bodyC Try.f24) [1, 1, 1, 1, 0, 1, 0, 0])) (loopD law03_step_3_l1_1_1_1_0_1_0S.xe law03_step_3_l1_1_1_1_0_1_0X (loopC law03_step_3_l1_1_1_1_0_1_0g))] (by kernel_rfl) ⟨(oneX_ok law03_step_3_j1_0_1_0_1_0_1_ok), law03_step_3_l1_0_1_0_1_0_1_1_1_1_0_1_0_ok, (oneX_ok law03_step_3_j1_0_1_0_1_1_1_1_1_0_1_1_ok), law03_step_3_l1_0_1_0_1_1_1_1_1_0_1_1_1_0_1_0_ok, law03_step_3_l1_1_1_1_0_1_0_ok, trivial⟩) (by kernel_rfl) law03_step_3_X_ok (fun x => by kernel_rfl)

/- wardshiplaw03.DevicePlays -/
def law03_DevicePlays_V : Env := ⟨[(entQ law03_lives_S law03_lives_fn), (entQ law03_fits_S law03_fits_fn), (entQ device_Device_Size_S device_Device_Size_fn), (entQ ref03_New_S ref03_New_fn), (entQ device_Device_Off_3_S device_Device_Off_3_fn), (entQ device_Device_Loose_S device_Device_Loose_fn), (entQ device_Device_Changes_S device_Device_Changes_fn), (entQ ref03_Now_S ref03_Now_fn), (entQ device_Device_Size_2_S device_Device_Size_2_fn), (entQ device_Device_Off_S device_Device_Off_fn), (entQ device_Device_Loose_2_S device_Device_Loose_2_fn), (entQ device_Device_Changes_2_S device_Device_Changes_2_fn)], [(entP device_New_S device_New_fn), (entP law03_step_3_S law03_step_3_fn), (entP device_Device_On_3_S device_Device_On_3_fn), (entP device_Device_Read_4_S device_Device_Read_4_fn), (entP law03_step_2_S law03_step_2_fn), (entP device_Device_On_S device_Device_On_fn), (entP device_Device_Read_2_S device_Device_Read_2_fn)], []⟩
theorem law03_DevicePlays_env : EnvsOK Try.prog law03_DevicePlays_V := ⟨env_cons (entQ_ok law03_lives_ok) (env_cons (entQ_ok law03_fits_ok) (env_cons (entQ_ok device_Device_Size_ok) (env_cons (entQ_ok ref03_New_ok) (env_cons (entQ_ok device_Device_Off_3_ok) (env_cons (entQ_ok device_Device_Loose_ok) (env_cons (entQ_ok device_Device_Changes_ok) (env_cons (entQ_ok ref03_Now_ok) (env_cons (entQ_ok device_Device_Size_2_ok) (env_cons (entQ_ok device_Device_Off_ok) (env_cons (entQ_ok device_Device_Loose_2_ok) (env_cons (entQ_ok device_Device_Changes_2_ok) (env_nil _)))))))))))), fenv_cons (entP_ok device_New_ok) (fenv_cons (entP_ok law03_step_3_ok) (fenv_cons (entP_ok device_Device_On_3_ok) (fenv_cons (entP_ok device_Device_Read_4_ok) (fenv_cons (entP_ok law03_step_2_ok) (fenv_cons (entP_ok device_Device_On_ok) (fenv_cons (entP_ok device_Device_Read_2_ok) (fenv_nil _))))))), denv_nil _⟩
def law03_DevicePlays_j1_1K0 : Shp := ⟨102, 0, [(0, .d (.int .i64)), (1, .d c5), (5, .c .nilp), (6, .d (.int .i64))], []⟩
def law03_DevicePlays_j1_1K1 : Shp := ⟨102, 0, [(0, .d (.int .i64)), (1, .d c5), (5, .pt 0 (.one (.st (.cons .leaf (.cons .leaf (.cons .leaf (.cons (.st (.cons .leaf (.cons .leaf (.one .leaf)))) (.cons .leaf (.one .leaf)))))))) []), (6, .d (.int .i64))], [.var 61 (.ag [.wn 1 c0, .d c1, .d (.int .i64), .d c2, .d (.int .i64), .d .bool]), .row 64 c0]⟩
def law03_DevicePlays_j1_1 : XS := .or .normal law03_DevicePlays_j1_1K0.xe (.one .normal law03_DevicePlays_j1_1K1.xe)
theorem law03_DevicePlays_j1_1_ok : law03_DevicePlays_j1_1.OK := XS.or_ok (shp_ok law03_DevicePlays_j1_1K0) (XS.one_ok (shp_ok law03_DevicePlays_j1_1K1))
def law03_DevicePlays_j1_1E : Shp := ⟨102, 0, [(0, .d (.int .i64)), (1, .d c5)], []⟩
def law03_DevicePlays_l1_1_1_1_1_0_1_0XK0 : Shp := ⟨102, 0, [(0, .d (.int .i64)), (5, .c .nilp), (7, .pt 0 (.one (.st (.cons .leaf (.cons .leaf (.cons .leaf (.cons (.st (.cons .leaf (.cons .leaf (.one .leaf)))) (.cons .leaf (.one .leaf)))))))) [])], [.var 52 (.d c7)]⟩
def law03_DevicePlays_l1_1_1_1_1_0_1_0XK1 : Shp := ⟨102, 0, [(4, .d .bool)], []⟩
def law03_DevicePlays_l1_1_1_1_1_0_1_0X : XS := .or (.exit 0) law03_DevicePlays_l1_1_1_1_1_0_1_0XK0.xe (.one .ret law03_DevicePlays_l1_1_1_1_1_0_1_0XK1.xe)
theorem law03_DevicePlays_l1_1_1_1_1_0_1_0X_ok : law03_DevicePlays_l1_1_1_1_1_0_1_0X.OK := XS.or_ok (shp_ok law03_DevicePlays_l1_1_1_1_1_0_1_0XK0) (XS.one_ok (shp_ok law03_DevicePlays_l1_1_1_1_1_0_1_0XK1))
def law03_DevicePlays_l1_1_1_1_1_0_1_0S : Shp := ⟨102, 0, [(0, .d (.int .i64)), (5, .c .nilp), (7, .pt 0 (.one (.st (.cons .leaf (.cons .leaf (.cons .leaf (.cons (.st (.cons .leaf (.cons .leaf (.one .leaf)))) (.cons .leaf (.one .leaf)))))))) []), (39, .d c5), (40, .d (.int .i64)), (41, .d (.int .i64))], [.var 52 (.d c7)]⟩
def law03_DevicePlays_l1_1_1_1_1_0_1_0r (sectors : Int) (t39 : List (Int × Int × Int × (List Int) × Bool × ((List Int) × Int × Int))) (t40 : Int) (t41 : Int) (x : (List (List Int)) × (List (Int × (List Int))) × Int × ((List Int) × Int × Int) × Int × Bool) : Option ((Int × (List (Int × Int × Int × (List Int) × Bool × ((List Int) × Int × Int))) × Int × Int × ((List (List Int)) × (List (Int × (List Int))) × Int × ((List Int) × Int × Int) × Int × Bool)) ⊕ ((Int × ((List (List Int)) × (List (Int × (List Int))) × Int × ((List Int) × Int × Int) × Int × Bool)) ⊕ (Bool))) :=
  bif ltI t41 t40 then
  (idxI t39 t41).bind fun x2 =>
  (law03_step_3 x x2).bind fun r =>
  bif !r.2 then
  some (.inr (.inr false))
  else
  (device_Device_Off_3).bind fun r2 =>
  bif !(r2 == r.1.2.2.2.2.2) then
  some (.inr (.inr false))
  else
  (device_Device_Loose).bind fun r3 =>
  shortK (List.length r.1.2.1) (
  bif neI r3 (List.length r.1.2.1 : Nat) then
  some (.inr (.inr false))
  else
  (device_Device_Changes).bind fun r4 =>
  bif neI r4 r.1.2.2.2.2.1 then
  some (.inr (.inr false))
  else
  some (.inl (sectors, t39, t40, W64 (t41 + 1), r.1)))
  else
  some (.inr (.inl (sectors, x)))
def law03_DevicePlays_l1_1_1_1_1_0_1_0g (s : Int × (List (Int × Int × Int × (List Int) × Bool × ((List Int) × Int × Int))) × Int × Int × ((List (List Int)) × (List (Int × (List Int))) × Int × ((List Int) × Int × Int) × Int × Bool)) : Option ((Int × (List (Int × Int × Int × (List Int) × Bool × ((List Int) × Int × Int))) × Int × Int × ((List (List Int)) × (List (Int × (List Int))) × Int × ((List Int) × Int × Int) × Int × Bool)) ⊕ ((Int × ((List (List Int)) × (List (Int × (List Int))) × Int × ((List Int) × Int × Int) × Int × Bool)) ⊕ (Bool))) := law03_DevicePlays_l1_1_1_1_1_0_1_0r s.1 s.2.1 s.2.2.1 s.2.2.2.1 s.2.2.2.2
theorem law03_DevicePlays_l1_1_1_1_1_0_1_0_ok : SoundD Try.prog (.loop (subC (bodyC Try.f7) [1, 1, 1, 1, 1, 0, 1, 0, 0])) (loopD law03_DevicePlays_l1_1_1_1_1_0_1_0S.xe law03_DevicePlays_l1_1_1_1_1_0_1_0X (loopC law03_DevicePlays_l1_1_1_1_1_0_1_0g)) :=
  loop_sound (S := law03_DevicePlays_l1_1_1_1_1_0_1_0S.xe) (X := law03_DevicePlays_l1_1_1_1_1_0_1_0X) law03_DevicePlays_env (h := .no) (hok_of [] (by kernel_rfl) trivial) (shp_ok law03_DevicePlays_l1_1_1_1_1_0_1_0S) law03_DevicePlays_l1_1_1_1_1_0_1_0X_ok law03_DevicePlays_l1_1_1_1_1_0_1_0g (fun s => by kernel_rfl)
def law03_DevicePlays_l1_1_1_1_1_1_1_1_0_1_0XK0 : Shp := ⟨102, 0, [], []⟩
def law03_DevicePlays_l1_1_1_1_1_1_1_1_0_1_0XK1 : Shp := ⟨102, 0, [(4, .d .bool)], []⟩
def law03_DevicePlays_l1_1_1_1_1_1_1_1_0_1_0X : XS := .or (.exit 2) law03_DevicePlays_l1_1_1_1_1_1_1_1_0_1_0XK0.xe (.one .ret law03_DevicePlays_l1_1_1_1_1_1_1_1_0_1_0XK1.xe)
theorem law03_DevicePlays_l1_1_1_1_1_1_1_1_0_1_0X_ok : law03_DevicePlays_l1_1_1_1_1_1_1_1_0_1_0X.OK := XS.or_ok (shp_ok law03_DevicePlays_l1_1_1_1_1_1_1_1_0_1_0XK0) (XS.one_ok (shp_ok law03_DevicePlays_l1_1_1_1_1_1_1_1_0_1_0XK1))
def law03_DevicePlays_l1_1_1_1_1_1_1_1_0_1_0S : Shp := ⟨102, 0, [(5, .c .nilp), (7, .pt 0 (.one (.st (.cons .leaf (.cons .leaf (.cons .leaf (.cons (.st (.cons .leaf (.cons .leaf (.one .leaf)))) (.cons .leaf (.one .leaf)))))))) []), (81, .d (.int .i64)), (82, .d (.int .i64))], [.var 52 (.d c7)]⟩
def law03_DevicePlays_l1_1_1_1_1_1_1_1_0_1_0r (t81 : Int) (t82 : Int) (x : (List (List Int)) × (List (Int × (List Int))) × Int × ((List Int) × Int × Int) × Int × Bool) : Option ((Int × Int × ((List (List Int)) × (List (Int × (List Int))) × Int × ((List Int) × Int × Int) × Int × Bool)) ⊕ ((Unit) ⊕ (Bool))) :=
  bif ltI t82 t81 then
  (device_Device_Read_4 t82).bind fun r =>
  bif neI r.2 0 then
  some (.inr (.inr false))
  else
  (ref03_Now x t82).bind fun r2 =>
  bif !(eqS r.1 r2) then
  some (.inr (.inr false))
  else
  some (.inl (t81, W64 (t82 + 1), x))
  else
  some (.inr (.inl ()))
def law03_DevicePlays_l1_1_1_1_1_1_1_1_0_1_0g (s : Int × Int × ((List (List Int)) × (List (Int × (List Int))) × Int × ((List Int) × Int × Int) × Int × Bool)) : Option ((Int × Int × ((List (List Int)) × (List (Int × (List Int))) × Int × ((List Int) × Int × Int) × Int × Bool)) ⊕ ((Unit) ⊕ (Bool))) := law03_DevicePlays_l1_1_1_1_1_1_1_1_0_1_0r s.1 s.2.1 s.2.2
theorem law03_DevicePlays_l1_1_1_1_1_1_1_1_0_1_0_ok : SoundD Try.prog (.loop (subC (bodyC Try.f7) [1, 1, 1, 1, 1, 1, 1, 1, 0, 1, 0, 0])) (loopD law03_DevicePlays_l1_1_1_1_1_1_1_1_0_1_0S.xe law03_DevicePlays_l1_1_1_1_1_1_1_1_0_1_0X (loopC law03_DevicePlays_l1_1_1_1_1_1_1_1_0_1_0g)) :=
  loop_sound (S := law03_DevicePlays_l1_1_1_1_1_1_1_1_0_1_0S.xe) (X := law03_DevicePlays_l1_1_1_1_1_1_1_1_0_1_0X) law03_DevicePlays_env (h := .no) (hok_of [] (by kernel_rfl) trivial) (shp_ok law03_DevicePlays_l1_1_1_1_1_1_1_1_0_1_0S) law03_DevicePlays_l1_1_1_1_1_1_1_1_0_1_0X_ok law03_DevicePlays_l1_1_1_1_1_1_1_1_0_1_0g (fun s => by kernel_rfl)
def law03_DevicePlays_l1_1_1_1_1_0_1_0n2XK0 : Shp := ⟨102, 0, [(0, .d (.int .i64)), (5, .pt 0 (.one (.st (.cons .leaf (.cons .leaf (.cons .leaf (.cons (.st (.cons .leaf (.cons .leaf (.one .leaf)))) (.cons .leaf (.one .leaf)))))))) []), (7, .pt 1 (.one (.st (.cons .leaf (.cons .leaf (.cons .leaf (.cons (.st (.cons .leaf (.cons .leaf (.one .leaf)))) (.cons .leaf (.one .leaf)))))))) [])], [.var 61 (.ag [.wn 2 c0, .d c1, .d (.int .i64), .d c2, .d (.int .i64), .d .bool]), .var 52 (.d c7), .row 64 c0]⟩
def law03_DevicePlays_l1_1_1_1_1_0_1_0n2XK1 : Shp := ⟨102, 0, [(4, .d .bool)], []⟩
def law03_DevicePlays_l1_1_1_1_1_0_1_0n2X : XS := .or (.exit 0) law03_DevicePlays_l1_1_1_1_1_0_1_0n2XK0.xe (.one .ret law03_DevicePlays_l1_1_1_1_1_0_1_0n2XK1.xe)
theorem law03_DevicePlays_l1_1_1_1_1_0_1_0n2X_ok : law03_DevicePlays_l1_1_1_1_1_0_1_0n2X.OK := XS.or_ok (shp_ok law03_DevicePlays_l1_1_1_1_1_0_1_0n2XK0) (XS.one_ok (shp_ok law03_DevicePlays_l1_1_1_1_1_0_1_0n2XK1))
def law03_DevicePlays_l1_1_1_1_1_0_1_0n2S : Shp := ⟨102, 0, [(0, .d (.int .i64)), (5, .pt 0 (.one (.st (.cons .leaf (.cons .leaf (.cons .leaf (.cons (.st (.cons .leaf (.cons .leaf (.one .leaf)))) (.cons .leaf (.one .leaf)))))))) []), (7, .pt 1 (.one (.st (.cons .leaf (.cons .leaf (.cons .leaf (.cons (.st (.cons .leaf (.cons .leaf (.one .leaf)))) (.cons .leaf (.one .leaf)))))))) []), (39, .d c5), (40, .d (.int .i64)), (41, .d (.int .i64))], [.var 61 (.ag [.wn 2 c0, .d c1, .d (.int .i64), .d c2, .d (.int .i64), .d .bool]), .var 52 (.d c7), .row 64 c0]⟩
def law03_DevicePlays_l1_1_1_1_1_0_1_0n2r (sectors : Int) (t39 : List (Int × Int × Int × (List Int) × Bool × ((List Int) × Int × Int))) (t40 : Int) (t41 : Int) (d : List (Int × (List Int))) (d2 : Int) (d3 : (List Int) × Int × Int) (d4 : Int) (d5 : Bool) (x : (List (List Int)) × (List (Int × (List Int))) × Int × ((List Int) × Int × Int) × Int × Bool) (d6 : List (List Int)) : Option ((Int × (List (Int × Int × Int × (List Int) × Bool × ((List Int) × Int × Int))) × Int × Int × (List (Int × (List Int))) × Int × ((List Int) × Int × Int) × Int × Bool × ((List (List Int)) × (List (Int × (List Int))) × Int × ((List Int) × Int × Int) × Int × Bool) × (List (List Int))) ⊕ ((Int × (List (Int × (List Int))) × Int × ((List Int) × Int × Int) × Int × Bool × ((List (List Int)) × (List (Int × (List Int))) × Int × ((List Int) × Int × Int) × Int × Bool) × (List (List Int))) ⊕ (Bool))) :=
  bif ltI t41 t40 then
  (idxI t39 t41).bind fun x2 =>
  bif Nat.beq (List.length d6) (List.length d6) then
  (law03_step_2 x x2 d d2 d3 d4 d5 d6).bind fun r =>
  bif !r.2.1 then
  some (.inr (.inr false))
  else
  winK r.2.2.2.2.2.2.2 0 (List.length r.2.2.2.2.2.2.2) fun w =>
  (device_Device_Off (w, r.2.2.1, r.2.2.2.1, r.2.2.2.2.1, r.2.2.2.2.2.1, r.2.2.2.2.2.2.1)).bind fun r2 =>
  bif !(r2 == r.1.2.2.2.2.2) then
  some (.inr (.inr false))
  else
  winK r.2.2.2.2.2.2.2 0 (List.length r.2.2.2.2.2.2.2) fun w2 =>
  (device_Device_Loose_2 (w2, r.2.2.1, r.2.2.2.1, r.2.2.2.2.1, r.2.2.2.2.2.1, r.2.2.2.2.2.2.1)).bind fun r3 =>
  shortK (List.length r.1.2.1) (
  bif neI r3 (List.length r.1.2.1 : Nat) then
  some (.inr (.inr false))
  else
  winK r.2.2.2.2.2.2.2 0 (List.length r.2.2.2.2.2.2.2) fun w3 =>
  (device_Device_Changes_2 (w3, r.2.2.1, r.2.2.2.1, r.2.2.2.2.1, r.2.2.2.2.2.1, r.2.2.2.2.2.2.1)).bind fun r4 =>
  bif neI r4 r.1.2.2.2.2.1 then
  some (.inr (.inr false))
  else
  bif Nat.beq (List.length r.2.2.2.2.2.2.2) (List.length r.2.2.2.2.2.2.2) then
  some (.inl (sectors, t39, t40, W64 (t41 + 1), r.2.2.1, r.2.2.2.1, r.2.2.2.2.1, r.2.2.2.2.2.1, r.2.2.2.2.2.2.1, r.1, r.2.2.2.2.2.2.2))
  else none)
  else none
  else
  bif Nat.beq (List.length d6) (List.length d6) then
  some (.inr (.inl (sectors, d, d2, d3, d4, d5, x, d6)))
  else none
def law03_DevicePlays_l1_1_1_1_1_0_1_0n2g (s : Int × (List (Int × Int × Int × (List Int) × Bool × ((List Int) × Int × Int))) × Int × Int × (List (Int × (List Int))) × Int × ((List Int) × Int × Int) × Int × Bool × ((List (List Int)) × (List (Int × (List Int))) × Int × ((List Int) × Int × Int) × Int × Bool) × (List (List Int))) : Option ((Int × (List (Int × Int × Int × (List Int) × Bool × ((List Int) × Int × Int))) × Int × Int × (List (Int × (List Int))) × Int × ((List Int) × Int × Int) × Int × Bool × ((List (List Int)) × (List (Int × (List Int))) × Int × ((List Int) × Int × Int) × Int × Bool) × (List (List Int))) ⊕ ((Int × (List (Int × (List Int))) × Int × ((List Int) × Int × Int) × Int × Bool × ((List (List Int)) × (List (Int × (List Int))) × Int × ((List Int) × Int × Int) × Int × Bool) × (List (List Int))) ⊕ (Bool))) := law03_DevicePlays_l1_1_1_1_1_0_1_0n2r s.1 s.2.1 s.2.2.1 s.2.2.2.1 s.2.2.2.2.1 s.2.2.2.2.2.1 s.2.2.2.2.2.2.1 s.2.2.2.2.2.2.2.1 s.2.2.2.2.2.2.2.2.1 s.2.2.2.2.2.2.2.2.2.1 s.2.2.2.2.2.2.2.2.2.2
theorem law03_DevicePlays_l1_1_1_1_1_0_1_0n2_ok : SoundD Try.prog (.loop (subC (bodyC Try.f7) [1, 1, 1, 1, 1, 0, 1, 0, 0])) (loopD law03_DevicePlays_l1_1_1_1_1_0_1_0n2S.xe law03_DevicePlays_l1_1_1_1_1_0_1_0n2X (loopC law03_DevicePlays_l1_1_1_1_1_0_1_0n2g)) :=
  loop_sound (S := law03_DevicePlays_l1_1_1_1_1_0_1_0n2S.xe) (X := law03_DevicePlays_l1_1_1_1_1_0_1_0n2X) law03_DevicePlays_env (h := .no) (hok_of [] (by kernel_rfl) trivial) (shp_ok law03_DevicePlays_l1_1_1_1_1_0_1_0n2S) law03_DevicePlays_l1_1_1_1_1_0_1_0n2X_ok law03_DevicePlays_l1_1_1_1_1_0_1_0n2g (fun s => by kernel_rfl)
def law03_DevicePlays_l1_1_1_1_1_1_1_1_0_1_0n2XK0 : Shp := ⟨102, 0, [], []⟩
def law03_DevicePlays_l1_1_1_1_1_1_1_1_0_1_0n2XK1 : Shp := ⟨102, 0, [(4, .d .bool)], []⟩
def law03_DevicePlays_l1_1_1_1_1_1_1_1_0_1_0n2X : XS := .or (.exit 2) law03_DevicePlays_l1_1_1_1_1_1_1_1_0_1_0n2XK0.xe (.one .ret law03_DevicePlays_l1_1_1_1_1_1_1_1_0_1_0n2XK1.xe)
theorem law03_DevicePlays_l1_1_1_1_1_1_1_1_0_1_0n2X_ok : law03_DevicePlays_l1_1_1_1_1_1_1_1_0_1_0n2X.OK := XS.or_ok (shp_ok law03_DevicePlays_l1_1_1_1_1_1_1_1_0_1_0n2XK0) (XS.one_ok (shp_ok law03_DevicePlays_l1_1_1_1_1_1_1_1_0_1_0n2XK1))
def law03_DevicePlays_l1_1_1_1_1_1_1_1_0_1_0n2S : Shp := ⟨102, 0, [(5, .pt 0 (.one (.st (.cons .leaf (.cons .leaf (.cons .leaf (.cons (.st (.cons .leaf (.cons .leaf (.one .leaf)))) (.cons .leaf (.one .leaf)))))))) []), (7, .pt 1 (.one (.st (.cons .leaf (.cons .leaf (.cons .leaf (.cons (.st (.cons .leaf (.cons .leaf (.one .leaf)))) (.cons .leaf (.one .leaf)))))))) []), (81, .d (.int .i64)), (82, .d (.int .i64))], [.var 61 (.ag [.wn 2 c0, .d c1, .d (.int .i64), .d c2, .d (.int .i64), .d .bool]), .var 52 (.d c7), .row 64 c0]⟩
def law03_DevicePlays_l1_1_1_1_1_1_1_1_0_1_0n2r (t81 : Int) (t82 : Int) (d : List (Int × (List Int))) (d2 : Int) (d3 : (List Int) × Int × Int) (d4 : Int) (d5 : Bool) (x : (List (List Int)) × (List (Int × (List Int))) × Int × ((List Int) × Int × Int) × Int × Bool) (d6 : List (List Int)) : Option ((Int × Int × (List (Int × (List Int))) × Int × ((List Int) × Int × Int) × Int × Bool × ((List (List Int)) × (List (Int × (List Int))) × Int × ((List Int) × Int × Int) × Int × Bool) × (List (List Int))) ⊕ ((Unit) ⊕ (Bool))) :=
  bif ltI t82 t81 then
  bif Nat.beq (List.length d6) (List.length d6) then
  (device_Device_Read_2 t82 d d2 d3 d4 d5 d6).bind fun r =>
  bif neI r.1 0 then
  some (.inr (.inr false))
  else
  winK r.2.2.2.2.2.2.1 0 (List.length r.2.2.2.2.2.2.1) fun w =>
  (ref03_Now x t82).bind fun r2 =>
  bif !(eqS w r2) then
  some (.inr (.inr false))
  else
  bif Nat.beq (List.length r.2.2.2.2.2.2.2) (List.length r.2.2.2.2.2.2.2) then
  some (.inl (t81, W64 (t82 + 1), r.2.1, r.2.2.1, r.2.2.2.1, r.2.2.2.2.1, r.2.2.2.2.2.1, x, r.2.2.2.2.2.2.2))
  else none
  else none
  else
  some (.inr (.inl ()))
def law03_DevicePlays_l1_1_1_1_1_1_1_1_0_1_0n2g (s : Int × Int × (List (Int × (List Int))) × Int × ((List Int) × Int × Int) × Int × Bool × ((List (List Int)) × (List (Int × (List Int))) × Int × ((List Int) × Int × Int) × Int × Bool) × (List (List Int))) : Option ((Int × Int × (List (Int × (List Int))) × Int × ((List Int) × Int × Int) × Int × Bool × ((List (List Int)) × (List (Int × (List Int))) × Int × ((List Int) × Int × Int) × Int × Bool) × (List (List Int))) ⊕ ((Unit) ⊕ (Bool))) := law03_DevicePlays_l1_1_1_1_1_1_1_1_0_1_0n2r s.1 s.2.1 s.2.2.1 s.2.2.2.1 s.2.2.2.2.1 s.2.2.2.2.2.1 s.2.2.2.2.2.2.1 s.2.2.2.2.2.2.2.1 s.2.2.2.2.2.2.2.2
theorem law03_DevicePlays_l1_1_1_1_1_1_1_1_0_1_0n2_ok : SoundD Try.prog (.loop (subC (bodyC Try.f7) [1, 1, 1, 1, 1, 1, 1, 1, 0, 1, 0, 0])) (loopD law03_DevicePlays_l1_1_1_1_1_1_1_1_0_1_0n2S.xe law03_DevicePlays_l1_1_1_1_1_1_1_1_0_1_0n2X (loopC law03_DevicePlays_l1_1_1_1_1_1_1_1_0_1_0n2g)) :=
  loop_sound (S := law03_DevicePlays_l1_1_1_1_1_1_1_1_0_1_0n2S.xe) (X := law03_DevicePlays_l1_1_1_1_1_1_1_1_0_1_0n2X) law03_DevicePlays_env (h := .no) (hok_of [] (by kernel_rfl) trivial) (shp_ok law03_DevicePlays_l1_1_1_1_1_1_1_1_0_1_0n2S) law03_DevicePlays_l1_1_1_1_1_1_1_1_0_1_0n2X_ok law03_DevicePlays_l1_1_1_1_1_1_1_1_0_1_0n2g (fun s => by kernel_rfl)
def law03_DevicePlays_XK0 : Shp := ⟨1, 0, [(0, .d .bool)], []⟩
def law03_DevicePlays_X : XS := .one .ret law03_DevicePlays_XK0.xe
theorem law03_DevicePlays_X_ok : law03_DevicePlays_X.OK := XS.one_ok (shp_ok law03_DevicePlays_XK0)
def law03_DevicePlays (sectors : Int) (script : List (Int × Int × Int × (List Int) × Bool × ((List Int) × Int × Int))) : Option ((Bool)) :=
  (law03_lives).bind fun r =>
  bif !r then
  (law03_lives).bind fun r2 =>
  some r2
  else
  (law03_fits sectors script).bind fun r3 =>
  bif !r3 then
  (law03_lives).bind fun r4 =>
  some r4
  else
  (show Option ((Int × (List (Int × Int × Int × (List Int) × Bool × ((List Int) × Int × Int))) × Int) ⊕ (Int × (List (Int × Int × Int × (List Int) × Bool × ((List Int) × Int × Int))) × Int × (List (Int × (List Int))) × Int × ((List Int) × Int × Int) × Int × Bool × (List (List Int)))) from
  (device_New sectors).bind fun r5 =>
  Sum.elim (fun y =>
  some (.inl (sectors, script, y))) (fun y2 =>
  bif Nat.beq (List.length y2.2.2.2.2.2.2) (List.length y2.2.2.2.2.2.2) then
  some (.inr (sectors, script, y2.1, y2.2.1, y2.2.2.1, y2.2.2.2.1, y2.2.2.2.2.1, y2.2.2.2.2.2.1, y2.2.2.2.2.2.2))
  else none) r5).bind fun j =>
  Sum.elim (fun y3 =>
  bif neI y3.2.2 0 then
  some false
  else
  (device_Device_Size).bind fun r6 =>
  bif neI r6 y3.1 then
  some false
  else
  (ref03_New y3.1).bind fun r7 =>
  shortK (List.length y3.2.1) (
  (loopC law03_DevicePlays_l1_1_1_1_1_0_1_0g (y3.1, y3.2.1, (List.length y3.2.1 : Nat), 0, r7)).bind fun o =>
  Sum.elim (fun y5 =>
  (device_Device_On_3).bind fun r8 =>
  (loopC law03_DevicePlays_l1_1_1_1_1_1_1_1_0_1_0g (y5.1, 0, (y5.2.1, y5.2.2.1, y5.2.2.2.1, y5.2.2.2.2.1, y5.2.2.2.2.2.1, false))).bind fun o2 =>
  Sum.elim (fun y7 =>
  some true) (fun y8 =>
  some y8) o2) (fun y6 =>
  some y6) o)) (fun y4 =>
  bif neI y4.2.2.1 0 then
  some false
  else
  winK y4.2.2.2.2.2.2.2.2 0 (List.length y4.2.2.2.2.2.2.2.2) fun w =>
  (device_Device_Size_2 (w, y4.2.2.2.1, y4.2.2.2.2.1, y4.2.2.2.2.2.1, y4.2.2.2.2.2.2.1, y4.2.2.2.2.2.2.2.1)).bind fun r9 =>
  bif neI r9 y4.1 then
  some false
  else
  (ref03_New y4.1).bind fun r10 =>
  shortK (List.length y4.2.1) (
  bif Nat.beq (List.length y4.2.2.2.2.2.2.2.2) (List.length y4.2.2.2.2.2.2.2.2) then
  (loopC law03_DevicePlays_l1_1_1_1_1_0_1_0n2g (y4.1, y4.2.1, (List.length y4.2.1 : Nat), 0, y4.2.2.2.1, y4.2.2.2.2.1, y4.2.2.2.2.2.1, y4.2.2.2.2.2.2.1, y4.2.2.2.2.2.2.2.1, r10, y4.2.2.2.2.2.2.2.2)).bind fun o3 =>
  Sum.elim (fun y9 =>
  bif Nat.beq (List.length y9.2.2.2.2.2.2.2) (List.length y9.2.2.2.2.2.2.2) then
  (device_Device_On y9.2.1 y9.2.2.1 y9.2.2.2.1 y9.2.2.2.2.1 y9.2.2.2.2.2.1 y9.2.2.2.2.2.2.2).bind fun r11 =>
  bif Nat.beq (List.length r11.2.2.2.2.2.2) (List.length r11.2.2.2.2.2.2) then
  (loopC law03_DevicePlays_l1_1_1_1_1_1_1_1_0_1_0n2g (y9.1, 0, r11.2.1, r11.2.2.1, r11.2.2.2.1, r11.2.2.2.2.1, r11.2.2.2.2.2.1, (y9.2.2.2.2.2.2.1.1, y9.2.2.2.2.2.2.1.2.1, y9.2.2.2.2.2.2.1.2.2.1, y9.2.2.2.2.2.2.1.2.2.2.1, y9.2.2.2.2.2.2.1.2.2.2.2.1, false), r11.2.2.2.2.2.2)).bind fun o4 =>
  Sum.elim (fun y11 =>
  some true) (fun y12 =>
  some y12) o4
  else none
  else none) (fun y10 =>
  some y10) o3
  else none)) j
def law03_DevicePlays_S : Sig := ⟨7, [.d (.int .i64), .d c5], [], 0, law03_DevicePlays_X⟩
def law03_DevicePlays_fn (x : Int × (List (Int × Int × Int × (List Int) × Bool × ((List Int) × Int × Int)))) : Option ((Bool)) := law03_DevicePlays x.1 x.2
theorem law03_DevicePlays_ok : FnOK Try.prog law03_DevicePlays_S law03_DevicePlays_fn :=
  fn_ok law03_DevicePlays_env (h := (.two .no (.two .no (.join (fun _ => law03_DevicePlays_j1_1) .no (.two .no (.two .no (.two (.two .no (.over (altD law03_DevicePlays_l1_1_1_1_1_0_1_0S.fit (loopD law03_DevicePlays_l1_1_1_1_1_0_1_0S.xe law03_DevicePlays_l1_1_1_1_1_0_1_0X (loopC law03_DevicePlays_l1_1_1_1_1_0_1_0g)) (loopD law03_DevicePlays_l1_1_1_1_1_0_1_0n2S.xe law03_DevicePlays_l1_1_1_1_1_0_1_0n2X (loopC law03_DevicePlays_l1_1_1_1_1_0_1_0n2g))))) (.two .no (.two .no (.two (.two .no (.over (altD law03_DevicePlays_l1_1_1_1_1_1_1_1_0_1_0S.fit (loopD law03_DevicePlays_l1_1_1_1_1_1_1_1_0_1_0S.xe law03_DevicePlays_l1_1_1_1_1_1_1_1_0_1_0X (loopC law03_DevicePlays_l1_1_1_1_1_1_1_1_0_1_0g)) (loopD law03_DevicePlays_l1_1_1_1_1_1_1_1_0_1_0n2S.xe law03_DevicePlays_l1_1_1_1_1_1_1_1_0_1_0n2X (loopC law03_DevicePlays_l1_1_1_1_1_1_1_1_0_1_0n2g))))) .no)))))))))) Try.func7 (hok_of [.xs (fun _ => law03_DevicePlays_j1_1), .den (.loop (subC (bodyC Try.f7) [1, 1, 1, 1, 1, 0, 1, 0, 0])) (altD law03_DevicePlays_l1_1_1_1_1_0_1_0S.fit (loopD law03_DevicePlays_l1_1_1_1_1_0_1_0S.xe law03_DevicePlays_l1_1_1_1_1_0_1_0X (loopC law03_DevicePlays_l1_1_1_1_1_0_1_0g)) (loopD law03_DevicePlays_l1_1_1_1_1_0_1_0n2S.xe law03_DevicePlays_l1_1_1_1_1_0_1_0n2X (loopC law03_DevicePlays_l1_1_1_1_1_0_1_0n2g))), .den (.loop (subC (bodyC Try.f7) [1, 1, 1, 1, 1, 1, 1, 1, 0, 1, 0, 0])) (altD law03_DevicePlays_l1_1_1_1_1_1_1_1_0_1_0S.fit (loopD law03_DevicePlays_l1_1_1_1_1_1_1_1_0_1_0S.xe law03_DevicePlays_l1_1_1_1_1_1_1_1_0_1_0X (loopC law03_DevicePlays_l1_1_1_1_1_1_1_1_0_1_0g)) (loopD law03_DevicePlays_l1_1_1_1_1_1_1_1_0_1_0n2S.xe law03_DevicePlays_l1_1_1_1_1_1_1_1_0_1_0n2X (loopC law03_DevicePlays_l1_1_1_1_1_1_1_1_0_1_0n2g)))] (by kernel_rfl) ⟨(oneX_ok law03_DevicePlays_j1_1_ok), (altD_ok law03_DevicePlays_l1_1_1_1_1_0_1_0_ok law03_DevicePlays_l1_1_1_1_1_0_1_0n2_ok), (altD_ok law03_DevicePlays_l1_1_1_1_1_1_1_1_0_1_0_ok law03_DevicePlays_l1_1_1_1_1_1_1_1_0_1_0n2_ok), trivial⟩) (by kernel_rfl) law03_DevicePlays_X_ok (fun x => by kernel_rfl)

end Go.Proofs.Ytamfpgmpofncoaa
