import Derived.Test.YtamfpgmpofncoaaDevAto
/- Typed functions of Go functions, printed by tm2.py; each is what the typed machine comes to. -/
set_option maxRecDepth 100000
set_option linter.unusedVariables false
noncomputable section
namespace Go.Proofs.Ytamfpgmpofncoaa
open Go.Tm Go.Ab

/- wardshiplaw03.DeviceLast -/
def law03_DeviceLast_V : Env := ⟨[(entQ law03_lives_S law03_lives_fn), (entQ law03_fits_S law03_fits_fn), (entQ law03_full_S law03_full_fn), (entQ device_Device_Changes_S device_Device_Changes_fn), (entQ device_Device_Loose_S device_Device_Loose_fn), (entQ device_Device_Off_3_S device_Device_Off_3_fn), (entQ device_Device_Changes_2_S device_Device_Changes_2_fn), (entQ device_Device_Loose_2_S device_Device_Loose_2_fn), (entQ device_Device_Off_S device_Device_Off_fn)], [(entP device_New_S device_New_fn), (entP device_Device_Barrier_3_S device_Device_Barrier_3_fn), (entP device_Device_Write_3_S device_Device_Write_3_fn), (entP device_Device_Read_4_S device_Device_Read_4_fn), (entP device_Device_On_3_S device_Device_On_3_fn), (entP device_Device_Barrier_S device_Device_Barrier_fn), (entP device_Device_Write_S device_Device_Write_fn), (entP device_Device_Read_2_S device_Device_Read_2_fn), (entP device_Device_On_S device_Device_On_fn)], []⟩
theorem law03_DeviceLast_env : EnvsOK Try.prog law03_DeviceLast_V := ⟨env_cons (entQ_ok law03_lives_ok) (env_cons (entQ_ok law03_fits_ok) (env_cons (entQ_ok law03_full_ok) (env_cons (entQ_ok device_Device_Changes_ok) (env_cons (entQ_ok device_Device_Loose_ok) (env_cons (entQ_ok device_Device_Off_3_ok) (env_cons (entQ_ok device_Device_Changes_2_ok) (env_cons (entQ_ok device_Device_Loose_2_ok) (env_cons (entQ_ok device_Device_Off_ok) (env_nil _))))))))), fenv_cons (entP_ok device_New_ok) (fenv_cons (entP_ok device_Device_Barrier_3_ok) (fenv_cons (entP_ok device_Device_Write_3_ok) (fenv_cons (entP_ok device_Device_Read_4_ok) (fenv_cons (entP_ok device_Device_On_3_ok) (fenv_cons (entP_ok device_Device_Barrier_ok) (fenv_cons (entP_ok device_Device_Write_ok) (fenv_cons (entP_ok device_Device_Read_2_ok) (fenv_cons (entP_ok device_Device_On_ok) (fenv_nil _))))))))), denv_nil _⟩
def law03_DeviceLast_j1_1K0 : Shp := ⟨138, 0, [(0, .d (.int .i64)), (1, .d c5), (5, .c .nilp), (6, .d (.int .i64))], []⟩
def law03_DeviceLast_j1_1K1 : Shp := ⟨138, 0, [(0, .d (.int .i64)), (1, .d c5), (5, .pt 0 (.one (.st (.cons .leaf (.cons .leaf (.cons .leaf (.cons (.st (.cons .leaf (.cons .leaf (.one .leaf)))) (.cons .leaf (.one .leaf)))))))) []), (6, .d (.int .i64))], [.var 61 (.ag [.wn 1 c0, .d c1, .d (.int .i64), .d c2, .d (.int .i64), .d .bool]), .row 64 c0]⟩
def law03_DeviceLast_j1_1 : XS := .or .normal law03_DeviceLast_j1_1K0.xe (.one .normal law03_DeviceLast_j1_1K1.xe)
theorem law03_DeviceLast_j1_1_ok : law03_DeviceLast_j1_1.OK := XS.or_ok (shp_ok law03_DeviceLast_j1_1K0) (XS.one_ok (shp_ok law03_DeviceLast_j1_1K1))
def law03_DeviceLast_j1_1E : Shp := ⟨138, 0, [(0, .d (.int .i64)), (1, .d c5)], []⟩
def law03_DeviceLast_l1_1_1_1_1_0_1_0XK0 : Shp := ⟨138, 0, [(0, .d (.int .i64)), (1, .d c5), (5, .c .nilp), (7, .wn 0 .str)], [.row 9 .str]⟩
def law03_DeviceLast_l1_1_1_1_1_0_1_0X : XS := .one (.exit 0) law03_DeviceLast_l1_1_1_1_1_0_1_0XK0.xe
theorem law03_DeviceLast_l1_1_1_1_1_0_1_0X_ok : law03_DeviceLast_l1_1_1_1_1_0_1_0X.OK := XS.one_ok (shp_ok law03_DeviceLast_l1_1_1_1_1_0_1_0XK0)
def law03_DeviceLast_l1_1_1_1_1_0_1_0S : Shp := ⟨138, 0, [(0, .d (.int .i64)), (1, .d c5), (5, .c .nilp), (7, .wn 0 .str), (37, .d (.int .i64)), (38, .d (.int .i64))], [.row 9 .str]⟩
def law03_DeviceLast_l1_1_1_1_1_0_1_0r (sectors : Int) (script : List (Int × Int × Int × (List Int) × Bool × ((List Int) × Int × Int))) (t37 : Int) (t38 : Int) (last : List (List Int)) : Option ((Int × (List (Int × Int × Int × (List Int) × Bool × ((List Int) × Int × Int))) × Int × Int × (List (List Int))) ⊕ ((Int × (List (Int × Int × Int × (List Int) × Bool × ((List Int) × Int × Int))) × (List (List Int))))) :=
  bif ltI t38 t37 then
  winK (List.replicate 256 (0 : Int)) 0 256 fun w =>
  bif inI t38 (List.length last) then
  (last[t38.toNat]?).bind fun _x =>
  bif Nat.beq (List.length last) (List.length (last.set t38.toNat w)) then
  some (.inl (sectors, script, t37, W64 (t38 + 1), last.set t38.toNat w))
  else none
  else none
  else
  bif Nat.beq (List.length last) (List.length last) then
  some (.inr (sectors, script, last))
  else none
def law03_DeviceLast_l1_1_1_1_1_0_1_0g (s : Int × (List (Int × Int × Int × (List Int) × Bool × ((List Int) × Int × Int))) × Int × Int × (List (List Int))) : Option ((Int × (List (Int × Int × Int × (List Int) × Bool × ((List Int) × Int × Int))) × Int × Int × (List (List Int))) ⊕ ((Int × (List (Int × Int × Int × (List Int) × Bool × ((List Int) × Int × Int))) × (List (List Int))))) := law03_DeviceLast_l1_1_1_1_1_0_1_0r s.1 s.2.1 s.2.2.1 s.2.2.2.1 s.2.2.2.2
theorem law03_DeviceLast_l1_1_1_1_1_0_1_0_ok : SoundD Try.prog (.loop (subC (bodyC Try.f5) [1, 1, 1, 1, 1, 0, 1, 0, 0])) (loopD law03_DeviceLast_l1_1_1_1_1_0_1_0S.xe law03_DeviceLast_l1_1_1_1_1_0_1_0X (loopC law03_DeviceLast_l1_1_1_1_1_0_1_0g)) :=
  loop_sound (S := law03_DeviceLast_l1_1_1_1_1_0_1_0S.xe) (X := law03_DeviceLast_l1_1_1_1_1_0_1_0X) law03_DeviceLast_env (h := .no) (hok_of [] (by kernel_rfl) trivial) (shp_ok law03_DeviceLast_l1_1_1_1_1_0_1_0S) law03_DeviceLast_l1_1_1_1_1_0_1_0X_ok law03_DeviceLast_l1_1_1_1_1_0_1_0g (fun s => by kernel_rfl)
def law03_DeviceLast_l1_1_1_1_1_1_1_0_1_0_0_1_1_0_0_1_1_1_1_1_1_1_1_0XK0 : Shp := ⟨138, 0, [(0, .d (.int .i64)), (5, .c .nilp), (7, .wn 0 .str), (9, .d (.int .i64)), (10, .d (.int .i64)), (47, .d c5), (48, .d (.int .i64)), (49, .d (.int .i64))], [.row 9 .str]⟩
def law03_DeviceLast_l1_1_1_1_1_1_1_0_1_0_0_1_1_0_0_1_1_1_1_1_1_1_1_0XK1 : Shp := ⟨138, 0, [(4, .d .bool)], []⟩
def law03_DeviceLast_l1_1_1_1_1_1_1_0_1_0_0_1_1_0_0_1_1_1_1_1_1_1_1_0X : XS := .or (.exit 4) law03_DeviceLast_l1_1_1_1_1_1_1_0_1_0_0_1_1_0_0_1_1_1_1_1_1_1_1_0XK0.xe (.one .ret law03_DeviceLast_l1_1_1_1_1_1_1_0_1_0_0_1_1_0_0_1_1_1_1_1_1_1_1_0XK1.xe)
theorem law03_DeviceLast_l1_1_1_1_1_1_1_0_1_0_0_1_1_0_0_1_1_1_1_1_1_1_1_0X_ok : law03_DeviceLast_l1_1_1_1_1_1_1_0_1_0_0_1_1_0_0_1_1_1_1_1_1_1_1_0X.OK := XS.or_ok (shp_ok law03_DeviceLast_l1_1_1_1_1_1_1_0_1_0_0_1_1_0_0_1_1_1_1_1_1_1_1_0XK0) (XS.one_ok (shp_ok law03_DeviceLast_l1_1_1_1_1_1_1_0_1_0_0_1_1_0_0_1_1_1_1_1_1_1_1_0XK1))
def law03_DeviceLast_l1_1_1_1_1_1_1_0_1_0_0_1_1_0_0_1_1_1_1_1_1_1_1_0S : Shp := ⟨138, 0, [(0, .d (.int .i64)), (5, .c .nilp), (7, .wn 0 .str), (9, .d (.int .i64)), (10, .d (.int .i64)), (47, .d c5), (48, .d (.int .i64)), (49, .d (.int .i64)), (95, .d (.int .i64)), (96, .d (.int .i64))], [.row 9 .str]⟩
def law03_DeviceLast_l1_1_1_1_1_1_1_0_1_0_0_1_1_0_0_1_1_1_1_1_1_1_1_0r (sectors : Int) (changes : Int) (loose : Int) (t47 : List (Int × Int × Int × (List Int) × Bool × ((List Int) × Int × Int))) (t48 : Int) (t49 : Int) (t95 : Int) (t96 : Int) (last : List (List Int)) : Option ((Int × Int × Int × (List (Int × Int × Int × (List Int) × Bool × ((List Int) × Int × Int))) × Int × Int × Int × Int × (List (List Int))) ⊕ ((Int × Int × Int × (List (Int × Int × Int × (List Int) × Bool × ((List Int) × Int × Int))) × Int × Int × (List (List Int))) ⊕ (Bool))) :=
  bif ltI t96 t95 then
  (device_Device_Read_4 t96).bind fun r =>
  bif neI r.2 0 then
  some (.inr (.inr false))
  else
  bif inI t96 (List.length last) then
  (last[t96.toNat]?).bind fun x =>
  bif !(eqS r.1 x) then
  some (.inr (.inr false))
  else
  bif Nat.beq (List.length last) (List.length last) then
  some (.inl (sectors, changes, loose, t47, t48, t49, t95, W64 (t96 + 1), last))
  else none
  else none
  else
  bif Nat.beq (List.length last) (List.length last) then
  some (.inr (.inl (sectors, changes, loose, t47, t48, t49, last)))
  else none
def law03_DeviceLast_l1_1_1_1_1_1_1_0_1_0_0_1_1_0_0_1_1_1_1_1_1_1_1_0g (s : Int × Int × Int × (List (Int × Int × Int × (List Int) × Bool × ((List Int) × Int × Int))) × Int × Int × Int × Int × (List (List Int))) : Option ((Int × Int × Int × (List (Int × Int × Int × (List Int) × Bool × ((List Int) × Int × Int))) × Int × Int × Int × Int × (List (List Int))) ⊕ ((Int × Int × Int × (List (Int × Int × Int × (List Int) × Bool × ((List Int) × Int × Int))) × Int × Int × (List (List Int))) ⊕ (Bool))) := law03_DeviceLast_l1_1_1_1_1_1_1_0_1_0_0_1_1_0_0_1_1_1_1_1_1_1_1_0r s.1 s.2.1 s.2.2.1 s.2.2.2.1 s.2.2.2.2.1 s.2.2.2.2.2.1 s.2.2.2.2.2.2.1 s.2.2.2.2.2.2.2.1 s.2.2.2.2.2.2.2.2
theorem law03_DeviceLast_l1_1_1_1_1_1_1_0_1_0_0_1_1_0_0_1_1_1_1_1_1_1_1_0_ok : SoundD Try.prog (.loop (subC (bodyC Try.f5) [1, 1, 1, 1, 1, 1, 1, 0, 1, 0, 0, 1, 1, 0, 0, 1, 1, 1, 1, 1, 1, 1, 1, 0, 0])) (loopD law03_DeviceLast_l1_1_1_1_1_1_1_0_1_0_0_1_1_0_0_1_1_1_1_1_1_1_1_0S.xe law03_DeviceLast_l1_1_1_1_1_1_1_0_1_0_0_1_1_0_0_1_1_1_1_1_1_1_1_0X (loopC law03_DeviceLast_l1_1_1_1_1_1_1_0_1_0_0_1_1_0_0_1_1_1_1_1_1_1_1_0g)) :=
  loop_sound (S := law03_DeviceLast_l1_1_1_1_1_1_1_0_1_0_0_1_1_0_0_1_1_1_1_1_1_1_1_0S.xe) (X := law03_DeviceLast_l1_1_1_1_1_1_1_0_1_0_0_1_1_0_0_1_1_1_1_1_1_1_1_0X) law03_DeviceLast_env (h := .no) (hok_of [] (by kernel_rfl) trivial) (shp_ok law03_DeviceLast_l1_1_1_1_1_1_1_0_1_0_0_1_1_0_0_1_1_1_1_1_1_1_1_0S) law03_DeviceLast_l1_1_1_1_1_1_1_0_1_0_0_1_1_0_0_1_1_1_1_1_1_1_1_0X_ok law03_DeviceLast_l1_1_1_1_1_1_1_0_1_0_0_1_1_0_0_1_1_1_1_1_1_1_1_0g (fun s => by kernel_rfl)
def law03_DeviceLast_l1_1_1_1_1_1_1_0_1_0XK0 : Shp := ⟨138, 0, [(5, .c .nilp), (9, .d (.int .i64)), (10, .d (.int .i64))], []⟩
def law03_DeviceLast_l1_1_1_1_1_1_1_0_1_0XK1 : Shp := ⟨138, 0, [(4, .d .bool)], []⟩
def law03_DeviceLast_l1_1_1_1_1_1_1_0_1_0X : XS := .or (.exit 2) law03_DeviceLast_l1_1_1_1_1_1_1_0_1_0XK0.xe (.one .ret law03_DeviceLast_l1_1_1_1_1_1_1_0_1_0XK1.xe)
theorem law03_DeviceLast_l1_1_1_1_1_1_1_0_1_0X_ok : law03_DeviceLast_l1_1_1_1_1_1_1_0_1_0X.OK := XS.or_ok (shp_ok law03_DeviceLast_l1_1_1_1_1_1_1_0_1_0XK0) (XS.one_ok (shp_ok law03_DeviceLast_l1_1_1_1_1_1_1_0_1_0XK1))
def law03_DeviceLast_l1_1_1_1_1_1_1_0_1_0S : Shp := ⟨138, 0, [(0, .d (.int .i64)), (5, .c .nilp), (7, .wn 0 .str), (9, .d (.int .i64)), (10, .d (.int .i64)), (47, .d c5), (48, .d (.int .i64)), (49, .d (.int .i64))], [.row 9 .str]⟩
def law03_DeviceLast_l1_1_1_1_1_1_1_0_1_0r (sectors : Int) (changes : Int) (loose : Int) (t47 : List (Int × Int × Int × (List Int) × Bool × ((List Int) × Int × Int))) (t48 : Int) (t49 : Int) (last : List (List Int)) : Option ((Int × Int × Int × (List (Int × Int × Int × (List Int) × Bool × ((List Int) × Int × Int))) × Int × Int × (List (List Int))) ⊕ ((Int × Int) ⊕ (Bool))) :=
  bif ltI t49 t48 then
  (idxI t47 t49).bind fun x =>
  bif eqI ((WU64 (x.1)).tmod 6) 1 then
  (device_Device_Barrier_3).bind fun r =>
  bif neI r 0 then
  some (.inr (.inr false))
  else
  bif Nat.beq (List.length last) (List.length last) then
  some (.inl (sectors, W64 (changes + 1), 0, t47, t48, W64 (t49 + 1), last))
  else none
  else
  bif eqI (WU64 (sectors)) 0 then none else
  shortK (List.length x.2.2.2.1) (
  bif subOk 0 (minI (List.length x.2.2.2.1 : Nat) 256) (List.length x.2.2.2.1) then
  (law03_full x.2.2.1 (subL x.2.2.2.1 0 (minI (List.length x.2.2.2.1 : Nat) 256))).bind fun r2 =>
  (device_Device_Write_3 (W64 ((WU64 (x.2.1)).tmod (WU64 (sectors)))) r2).bind fun r3 =>
  bif neI r3 0 then
  some (.inr (.inr false))
  else
  bif inI (W64 ((WU64 (x.2.1)).tmod (WU64 (sectors)))) (List.length last) then
  (last[(W64 ((WU64 (x.2.1)).tmod (WU64 (sectors)))).toNat]?).bind fun _x =>
  shortK (List.length last) (
  bif Nat.beq (List.length last) (List.length (last.set ((W64 ((WU64 (x.2.1)).tmod (WU64 (sectors)))).toNat) r2)) then
  (loopC law03_DeviceLast_l1_1_1_1_1_1_1_0_1_0_0_1_1_0_0_1_1_1_1_1_1_1_1_0g ((sectors, W64 (changes + 1), W64 (loose + 1), t47, t48, t49, (List.length last : Nat), 0, last.set ((W64 ((WU64 (x.2.1)).tmod (WU64 (sectors)))).toNat) r2))).bind fun o =>
  Sum.elim (fun y =>
  bif Nat.beq (List.length y.2.2.2.2.2.2) (List.length y.2.2.2.2.2.2) then
  some (.inl (y.1, y.2.1, y.2.2.1, y.2.2.2.1, y.2.2.2.2.1, W64 (y.2.2.2.2.2.1 + 1), y.2.2.2.2.2.2))
  else none) (fun y2 =>
  some (.inr (.inr y2))) o
  else none)
  else none
  else none)
  else
  some (.inr (.inl (changes, loose)))
def law03_DeviceLast_l1_1_1_1_1_1_1_0_1_0g (s : Int × Int × Int × (List (Int × Int × Int × (List Int) × Bool × ((List Int) × Int × Int))) × Int × Int × (List (List Int))) : Option ((Int × Int × Int × (List (Int × Int × Int × (List Int) × Bool × ((List Int) × Int × Int))) × Int × Int × (List (List Int))) ⊕ ((Int × Int) ⊕ (Bool))) := law03_DeviceLast_l1_1_1_1_1_1_1_0_1_0r s.1 s.2.1 s.2.2.1 s.2.2.2.1 s.2.2.2.2.1 s.2.2.2.2.2.1 s.2.2.2.2.2.2
theorem law03_DeviceLast_l1_1_1_1_1_1_1_0_1_0_ok : SoundD Try.prog (.loop (subC (bodyC Try.f5) [1, 1, 1, 1, 1, 1, 1, 0, 1, 0, 0])) (loopD law03_DeviceLast_l1_1_1_1_1_1_1_0_1_0S.xe law03_DeviceLast_l1_1_1_1_1_1_1_0_1_0X (loopC law03_DeviceLast_l1_1_1_1_1_1_1_0_1_0g)) :=
  loop_sound (S := law03_DeviceLast_l1_1_1_1_1_1_1_0_1_0S.xe) (X := law03_DeviceLast_l1_1_1_1_1_1_1_0_1_0X) law03_DeviceLast_env (h := (.two .no (.two .no (.two (.two .no (.two .no (.two .no (.two .no (.two .no (.two .no (.two .no (.two .no (.over (loopD law03_DeviceLast_l1_1_1_1_1_1_1_0_1_0_0_1_1_0_0_1_1_1_1_1_1_1_1_0S.xe law03_DeviceLast_l1_1_1_1_1_1_1_0_1_0_0_1_1_0_0_1_1_1_1_1_1_1_1_0X (loopC law03_DeviceLast_l1_1_1_1_1_1_1_0_1_0_0_1_1_0_0_1_1_1_1_1_1_1_1_0g))))))))))) .no)))) (hok_of [.den (.loop (subC (bodyC Try.f5) [1, 1, 1, 1, 1, 1, 1, 0, 1, 0, 0, 1, 1, 0, 0, 1, 1, 1, 1, 1, 1, 1, 1, 0, 0])) (loopD law03_DeviceLast_l1_1_1_1_1_1_1_0_1_0_0_1_1_0_0_1_1_1_1_1_1_1_1_0S.xe law03_DeviceLast_l1_1_1_1_1_1_1_0_1_0_0_1_1_0_0_1_1_1_1_1_1_1_1_0X (loopC law03_DeviceLast_l1_1_1_1_1_1_1_0_1_0_0_1_1_0_0_1_1_1_1_1_1_1_1_0g))] (by kernel_rfl) ⟨law03_DeviceLast_l1_1_1_1_1_1_1_0_1_0_0_1_1_0_0_1_1_1_1_1_1_1_1_0_ok, trivial⟩) (shp_ok law03_DeviceLast_l1_1_1_1_1_1_1_0_1_0S) law03_DeviceLast_l1_1_1_1_1_1_1_0_1_0X_ok law03_DeviceLast_l1_1_1_1_1_1_1_0_1_0g (fun s => by kernel_rfl)
def law03_DeviceLast_l1_1_1_1_1_0_1_0n2XK0 : Shp := ⟨138, 0, [(0, .d (.int .i64)), (1, .d c5), (5, .pt 0 (.one (.st (.cons .leaf (.cons .leaf (.cons .leaf (.cons (.st (.cons .leaf (.cons .leaf (.one .leaf)))) (.cons .leaf (.one .leaf)))))))) []), (7, .wn 1 .str)], [.var 61 (.ag [.wn 2 c0, .d c1, .d (.int .i64), .d c2, .d (.int .i64), .d .bool]), .row 9 .str, .row 64 c0]⟩
def law03_DeviceLast_l1_1_1_1_1_0_1_0n2X : XS := .one (.exit 0) law03_DeviceLast_l1_1_1_1_1_0_1_0n2XK0.xe
theorem law03_DeviceLast_l1_1_1_1_1_0_1_0n2X_ok : law03_DeviceLast_l1_1_1_1_1_0_1_0n2X.OK := XS.one_ok (shp_ok law03_DeviceLast_l1_1_1_1_1_0_1_0n2XK0)
def law03_DeviceLast_l1_1_1_1_1_0_1_0n2S : Shp := ⟨138, 0, [(0, .d (.int .i64)), (1, .d c5), (5, .pt 0 (.one (.st (.cons .leaf (.cons .leaf (.cons .leaf (.cons (.st (.cons .leaf (.cons .leaf (.one .leaf)))) (.cons .leaf (.one .leaf)))))))) []), (7, .wn 1 .str), (37, .d (.int .i64)), (38, .d (.int .i64))], [.var 61 (.ag [.wn 2 c0, .d c1, .d (.int .i64), .d c2, .d (.int .i64), .d .bool]), .row 9 .str, .row 64 c0]⟩
def law03_DeviceLast_l1_1_1_1_1_0_1_0n2r (sectors : Int) (script : List (Int × Int × Int × (List Int) × Bool × ((List Int) × Int × Int))) (t37 : Int) (t38 : Int) (d : List (Int × (List Int))) (d2 : Int) (d3 : (List Int) × Int × Int) (d4 : Int) (d5 : Bool) (last : List (List Int)) (d6 : List (List Int)) : Option ((Int × (List (Int × Int × Int × (List Int) × Bool × ((List Int) × Int × Int))) × Int × Int × (List (Int × (List Int))) × Int × ((List Int) × Int × Int) × Int × Bool × (List (List Int)) × (List (List Int))) ⊕ ((Int × (List (Int × Int × Int × (List Int) × Bool × ((List Int) × Int × Int))) × (List (Int × (List Int))) × Int × ((List Int) × Int × Int) × Int × Bool × (List (List Int)) × (List (List Int))))) :=
  bif ltI t38 t37 then
  winK (List.replicate 256 (0 : Int)) 0 256 fun w =>
  bif inI t38 (List.length last) then
  (last[t38.toNat]?).bind fun _x =>
  bif Nat.beq (List.length last) (List.length (last.set t38.toNat w)) then
  bif Nat.beq (List.length d6) (List.length d6) then
  some (.inl (sectors, script, t37, W64 (t38 + 1), d, d2, d3, d4, d5, last.set t38.toNat w, d6))
  else none
  else none
  else none
  else
  bif Nat.beq (List.length last) (List.length last) then
  bif Nat.beq (List.length d6) (List.length d6) then
  some (.inr (sectors, script, d, d2, d3, d4, d5, last, d6))
  else none
  else none
def law03_DeviceLast_l1_1_1_1_1_0_1_0n2g (s : Int × (List (Int × Int × Int × (List Int) × Bool × ((List Int) × Int × Int))) × Int × Int × (List (Int × (List Int))) × Int × ((List Int) × Int × Int) × Int × Bool × (List (List Int)) × (List (List Int))) : Option ((Int × (List (Int × Int × Int × (List Int) × Bool × ((List Int) × Int × Int))) × Int × Int × (List (Int × (List Int))) × Int × ((List Int) × Int × Int) × Int × Bool × (List (List Int)) × (List (List Int))) ⊕ ((Int × (List (Int × Int × Int × (List Int) × Bool × ((List Int) × Int × Int))) × (List (Int × (List Int))) × Int × ((List Int) × Int × Int) × Int × Bool × (List (List Int)) × (List (List Int))))) := law03_DeviceLast_l1_1_1_1_1_0_1_0n2r s.1 s.2.1 s.2.2.1 s.2.2.2.1 s.2.2.2.2.1 s.2.2.2.2.2.1 s.2.2.2.2.2.2.1 s.2.2.2.2.2.2.2.1 s.2.2.2.2.2.2.2.2.1 s.2.2.2.2.2.2.2.2.2.1 s.2.2.2.2.2.2.2.2.2.2
theorem law03_DeviceLast_l1_1_1_1_1_0_1_0n2_ok : SoundD Try.prog (.loop (subC (bodyC Try.f5) [1, 1, 1, 1, 1, 0, 1, 0, 0])) (loopD law03_DeviceLast_l1_1_1_1_1_0_1_0n2S.xe law03_DeviceLast_l1_1_1_1_1_0_1_0n2X (loopC law03_DeviceLast_l1_1_1_1_1_0_1_0n2g)) :=
  loop_sound (S := law03_DeviceLast_l1_1_1_1_1_0_1_0n2S.xe) (X := law03_DeviceLast_l1_1_1_1_1_0_1_0n2X) law03_DeviceLast_env (h := .no) (hok_of [] (by kernel_rfl) trivial) (shp_ok law03_DeviceLast_l1_1_1_1_1_0_1_0n2S) law03_DeviceLast_l1_1_1_1_1_0_1_0n2X_ok law03_DeviceLast_l1_1_1_1_1_0_1_0n2g (fun s => by kernel_rfl)
def law03_DeviceLast_l1_1_1_1_1_1_1_0_1_0_0_1_1_0_0_1_1_1_1_1_1_1_1_0n2XK0 : Shp := ⟨138, 0, [(0, .d (.int .i64)), (5, .pt 0 (.one (.st (.cons .leaf (.cons .leaf (.cons .leaf (.cons (.st (.cons .leaf (.cons .leaf (.one .leaf)))) (.cons .leaf (.one .leaf)))))))) []), (7, .wn 1 .str), (9, .d (.int .i64)), (10, .d (.int .i64)), (47, .d c5), (48, .d (.int .i64)), (49, .d (.int .i64))], [.var 61 (.ag [.wn 2 c0, .d c1, .d (.int .i64), .d c2, .d (.int .i64), .d .bool]), .row 9 .str, .row 64 c0]⟩
def law03_DeviceLast_l1_1_1_1_1_1_1_0_1_0_0_1_1_0_0_1_1_1_1_1_1_1_1_0n2XK1 : Shp := ⟨138, 0, [(4, .d .bool)], []⟩
def law03_DeviceLast_l1_1_1_1_1_1_1_0_1_0_0_1_1_0_0_1_1_1_1_1_1_1_1_0n2X : XS := .or (.exit 4) law03_DeviceLast_l1_1_1_1_1_1_1_0_1_0_0_1_1_0_0_1_1_1_1_1_1_1_1_0n2XK0.xe (.one .ret law03_DeviceLast_l1_1_1_1_1_1_1_0_1_0_0_1_1_0_0_1_1_1_1_1_1_1_1_0n2XK1.xe)
theorem law03_DeviceLast_l1_1_1_1_1_1_1_0_1_0_0_1_1_0_0_1_1_1_1_1_1_1_1_0n2X_ok : law03_DeviceLast_l1_1_1_1_1_1_1_0_1_0_0_1_1_0_0_1_1_1_1_1_1_1_1_0n2X.OK := XS.or_ok (shp_ok law03_DeviceLast_l1_1_1_1_1_1_1_0_1_0_0_1_1_0_0_1_1_1_1_1_1_1_1_0n2XK0) (XS.one_ok (shp_ok law03_DeviceLast_l1_1_1_1_1_1_1_0_1_0_0_1_1_0_0_1_1_1_1_1_1_1_1_0n2XK1))
def law03_DeviceLast_l1_1_1_1_1_1_1_0_1_0_0_1_1_0_0_1_1_1_1_1_1_1_1_0n2S : Shp := ⟨138, 0, [(0, .d (.int .i64)), (5, .pt 0 (.one (.st (.cons .leaf (.cons .leaf (.cons .leaf (.cons (.st (.cons .leaf (.cons .leaf (.one .leaf)))) (.cons .leaf (.one .leaf)))))))) []), (7, .wn 1 .str), (9, .d (.int .i64)), (10, .d (.int .i64)), (47, .d c5), (48, .d (.int .i64)), (49, .d (.int .i64)), (95, .d (.int .i64)), (96, .d (.int .i64))], [.var 61 (.ag [.wn 2 c0, .d c1, .d (.int .i64), .d c2, .d (.int .i64), .d .bool]), .row 9 .str, .row 64 c0]⟩
def law03_DeviceLast_l1_1_1_1_1_1_1_0_1_0_0_1_1_0_0_1_1_1_1_1_1_1_1_0n2r (sectors : Int) (changes : Int) (loose : Int) (t47 : List (Int × Int × Int × (List Int) × Bool × ((List Int) × Int × Int))) (t48 : Int) (t49 : Int) (t95 : Int) (t96 : Int) (d : List (Int × (List Int))) (d2 : Int) (d3 : (List Int) × Int × Int) (d4 : Int) (d5 : Bool) (last : List (List Int)) (d6 : List (List Int)) : Option ((Int × Int × Int × (List (Int × Int × Int × (List Int) × Bool × ((List Int) × Int × Int))) × Int × Int × Int × Int × (List (Int × (List Int))) × Int × ((List Int) × Int × Int) × Int × Bool × (List (List Int)) × (List (List Int))) ⊕ ((Int × Int × Int × (List (Int × Int × Int × (List Int) × Bool × ((List Int) × Int × Int))) × Int × Int × (List (Int × (List Int))) × Int × ((List Int) × Int × Int) × Int × Bool × (List (List Int)) × (List (List Int))) ⊕ (Bool))) :=
  bif ltI t96 t95 then
  bif Nat.beq (List.length d6) (List.length d6) then
  (device_Device_Read_2 t96 d d2 d3 d4 d5 d6).bind fun r =>
  bif neI r.1 0 then
  some (.inr (.inr false))
  else
  winK r.2.2.2.2.2.2.1 0 (List.length r.2.2.2.2.2.2.1) fun w =>
  bif inI t96 (List.length last) then
  (last[t96.toNat]?).bind fun x =>
  bif !(eqS w x) then
  some (.inr (.inr false))
  else
  bif Nat.beq (List.length last) (List.length last) then
  bif Nat.beq (List.length r.2.2.2.2.2.2.2) (List.length r.2.2.2.2.2.2.2) then
  some (.inl (sectors, changes, loose, t47, t48, t49, t95, W64 (t96 + 1), r.2.1, r.2.2.1, r.2.2.2.1, r.2.2.2.2.1, r.2.2.2.2.2.1, last, r.2.2.2.2.2.2.2))
  else none
  else none
  else none
  else none
  else
  bif Nat.beq (List.length last) (List.length last) then
  bif Nat.beq (List.length d6) (List.length d6) then
  some (.inr (.inl (sectors, changes, loose, t47, t48, t49, d, d2, d3, d4, d5, last, d6)))
  else none
  else none
def law03_DeviceLast_l1_1_1_1_1_1_1_0_1_0_0_1_1_0_0_1_1_1_1_1_1_1_1_0n2g (s : Int × Int × Int × (List (Int × Int × Int × (List Int) × Bool × ((List Int) × Int × Int))) × Int × Int × Int × Int × (List (Int × (List Int))) × Int × ((List Int) × Int × Int) × Int × Bool × (List (List Int)) × (List (List Int))) : Option ((Int × Int × Int × (List (Int × Int × Int × (List Int) × Bool × ((List Int) × Int × Int))) × Int × Int × Int × Int × (List (Int × (List Int))) × Int × ((List Int) × Int × Int) × Int × Bool × (List (List Int)) × (List (List Int))) ⊕ ((Int × Int × Int × (List (Int × Int × Int × (List Int) × Bool × ((List Int) × Int × Int))) × Int × Int × (List (Int × (List Int))) × Int × ((List Int) × Int × Int) × Int × Bool × (List (List Int)) × (List (List Int))) ⊕ (Bool))) := law03_DeviceLast_l1_1_1_1_1_1_1_0_1_0_0_1_1_0_0_1_1_1_1_1_1_1_1_0n2r s.1 s.2.1 s.2.2.1 s.2.2.2.1 s.2.2.2.2.1 s.2.2.2.2.2.1 s.2.2.2.2.2.2.1 s.2.2.2.2.2.2.2.1 s.2.2.2.2.2.2.2.2.1 s.2.2.2.2.2.2.2.2.2.1 s.2.2.2.2.2.2.2.2.2.2.1 s.2.2.2.2.2.2.2.2.2.2.2.1 s.2.2.2.2.2.2.2.2.2.2.2.2.1 s.2.2.2.2.2.2.2.2.2.2.2.2.2.1 s.2.2.2.2.2.2.2.2.2.2.2.2.2.2
theorem law03_DeviceLast_l1_1_1_1_1_1_1_0_1_0_0_1_1_0_0_1_1_1_1_1_1_1_1_0n2_ok : SoundD Try.prog (.loop (subC (bodyC Try.f5) [1, 1, 1, 1, 1, 1, 1, 0, 1, 0, 0, 1, 1, 0, 0, 1, 1, 1, 1, 1, 1, 1, 1, 0, 0])) (loopD law03_DeviceLast_l1_1_1_1_1_1_1_0_1_0_0_1_1_0_0_1_1_1_1_1_1_1_1_0n2S.xe law03_DeviceLast_l1_1_1_1_1_1_1_0_1_0_0_1_1_0_0_1_1_1_1_1_1_1_1_0n2X (loopC law03_DeviceLast_l1_1_1_1_1_1_1_0_1_0_0_1_1_0_0_1_1_1_1_1_1_1_1_0n2g)) :=
  loop_sound (S := law03_DeviceLast_l1_1_1_1_1_1_1_0_1_0_0_1_1_0_0_1_1_1_1_1_1_1_1_0n2S.xe) (X := law03_DeviceLast_l1_1_1_1_1_1_1_0_1_0_0_1_1_0_0_1_1_1_1_1_1_1_1_0n2X) law03_DeviceLast_env (h := .no) (hok_of [] (by kernel_rfl) trivial) (shp_ok law03_DeviceLast_l1_1_1_1_1_1_1_0_1_0_0_1_1_0_0_1_1_1_1_1_1_1_1_0n2S) law03_DeviceLast_l1_1_1_1_1_1_1_0_1_0_0_1_1_0_0_1_1_1_1_1_1_1_1_0n2X_ok law03_DeviceLast_l1_1_1_1_1_1_1_0_1_0_0_1_1_0_0_1_1_1_1_1_1_1_1_0n2g (fun s => by kernel_rfl)
def law03_DeviceLast_l1_1_1_1_1_1_1_0_1_0n2XK0 : Shp := ⟨138, 0, [(5, .pt 0 (.one (.st (.cons .leaf (.cons .leaf (.cons .leaf (.cons (.st (.cons .leaf (.cons .leaf (.one .leaf)))) (.cons .leaf (.one .leaf)))))))) []), (9, .d (.int .i64)), (10, .d (.int .i64))], [.var 61 (.ag [.wn 1 c0, .d c1, .d (.int .i64), .d c2, .d (.int .i64), .d .bool]), .row 64 c0]⟩
def law03_DeviceLast_l1_1_1_1_1_1_1_0_1_0n2XK1 : Shp := ⟨138, 0, [(4, .d .bool)], []⟩
def law03_DeviceLast_l1_1_1_1_1_1_1_0_1_0n2X : XS := .or (.exit 2) law03_DeviceLast_l1_1_1_1_1_1_1_0_1_0n2XK0.xe (.one .ret law03_DeviceLast_l1_1_1_1_1_1_1_0_1_0n2XK1.xe)
theorem law03_DeviceLast_l1_1_1_1_1_1_1_0_1_0n2X_ok : law03_DeviceLast_l1_1_1_1_1_1_1_0_1_0n2X.OK := XS.or_ok (shp_ok law03_DeviceLast_l1_1_1_1_1_1_1_0_1_0n2XK0) (XS.one_ok (shp_ok law03_DeviceLast_l1_1_1_1_1_1_1_0_1_0n2XK1))
def law03_DeviceLast_l1_1_1_1_1_1_1_0_1_0n2S : Shp := ⟨138, 0, [(0, .d (.int .i64)), (5, .pt 0 (.one (.st (.cons .leaf (.cons .leaf (.cons .leaf (.cons (.st (.cons .leaf (.cons .leaf (.one .leaf)))) (.cons .leaf (.one .leaf)))))))) []), (7, .wn 1 .str), (9, .d (.int .i64)), (10, .d (.int .i64)), (47, .d c5), (48, .d (.int .i64)), (49, .d (.int .i64))], [.var 61 (.ag [.wn 2 c0, .d c1, .d (.int .i64), .d c2, .d (.int .i64), .d .bool]), .row 9 .str, .row 64 c0]⟩
def law03_DeviceLast_l1_1_1_1_1_1_1_0_1_0n2r (sectors : Int) (changes : Int) (loose : Int) (t47 : List (Int × Int × Int × (List Int) × Bool × ((List Int) × Int × Int))) (t48 : Int) (t49 : Int) (d : List (Int × (List Int))) (d2 : Int) (d3 : (List Int) × Int × Int) (d4 : Int) (d5 : Bool) (last : List (List Int)) (d6 : List (List Int)) : Option ((Int × Int × Int × (List (Int × Int × Int × (List Int) × Bool × ((List Int) × Int × Int))) × Int × Int × (List (Int × (List Int))) × Int × ((List Int) × Int × Int) × Int × Bool × (List (List Int)) × (List (List Int))) ⊕ ((Int × Int × (List (Int × (List Int))) × Int × ((List Int) × Int × Int) × Int × Bool × (List (List Int))) ⊕ (Bool))) :=
  bif ltI t49 t48 then
  (idxI t47 t49).bind fun x =>
  bif eqI ((WU64 (x.1)).tmod 6) 1 then
  bif Nat.beq (List.length d6) (List.length d6) then
  (device_Device_Barrier d d2 d3 d4 d5 d6).bind fun r =>
  bif neI r.1 0 then
  some (.inr (.inr false))
  else
  bif Nat.beq (List.length last) (List.length last) then
  bif Nat.beq (List.length r.2.2.2.2.2.2) (List.length r.2.2.2.2.2.2) then
  some (.inl (sectors, W64 (changes + 1), 0, t47, t48, W64 (t49 + 1), r.2.1, r.2.2.1, r.2.2.2.1, r.2.2.2.2.1, r.2.2.2.2.2.1, last, r.2.2.2.2.2.2))
  else none
  else none
  else none
  else
  bif eqI (WU64 (sectors)) 0 then none else
  shortK (List.length x.2.2.2.1) (
  bif subOk 0 (minI (List.length x.2.2.2.1 : Nat) 256) (List.length x.2.2.2.1) then
  (law03_full x.2.2.1 (subL x.2.2.2.1 0 (minI (List.length x.2.2.2.1 : Nat) 256))).bind fun r2 =>
  bif Nat.beq (List.length d6) (List.length d6) then
  (device_Device_Write (W64 ((WU64 (x.2.1)).tmod (WU64 (sectors)))) r2 d d2 d3 d4 d5 d6).bind fun r3 =>
  bif neI r3.1 0 then
  some (.inr (.inr false))
  else
  bif inI (W64 ((WU64 (x.2.1)).tmod (WU64 (sectors)))) (List.length last) then
  (last[(W64 ((WU64 (x.2.1)).tmod (WU64 (sectors)))).toNat]?).bind fun _x =>
  shortK (List.length last) (
  bif Nat.beq (List.length last) (List.length (last.set ((W64 ((WU64 (x.2.1)).tmod (WU64 (sectors)))).toNat) r2)) then
  bif Nat.beq (List.length r3.2.2.2.2.2.2) (List.length r3.2.2.2.2.2.2) then
  (loopC law03_DeviceLast_l1_1_1_1_1_1_1_0_1_0_0_1_1_0_0_1_1_1_1_1_1_1_1_0n2g ((sectors, W64 (changes + 1), W64 (loose + 1), t47, t48, t49, (List.length last : Nat), 0, r3.2.1, r3.2.2.1, r3.2.2.2.1, r3.2.2.2.2.1, r3.2.2.2.2.2.1, last.set ((W64 ((WU64 (x.2.1)).tmod (WU64 (sectors)))).toNat) r2, r3.2.2.2.2.2.2))).bind fun o =>
  Sum.elim (fun y =>
  bif Nat.beq (List.length y.2.2.2.2.2.2.2.2.2.2.2.1) (List.length y.2.2.2.2.2.2.2.2.2.2.2.1) then
  bif Nat.beq (List.length y.2.2.2.2.2.2.2.2.2.2.2.2) (List.length y.2.2.2.2.2.2.2.2.2.2.2.2) then
  some (.inl (y.1, y.2.1, y.2.2.1, y.2.2.2.1, y.2.2.2.2.1, W64 (y.2.2.2.2.2.1 + 1), y.2.2.2.2.2.2.1, y.2.2.2.2.2.2.2.1, y.2.2.2.2.2.2.2.2.1, y.2.2.2.2.2.2.2.2.2.1, y.2.2.2.2.2.2.2.2.2.2.1, y.2.2.2.2.2.2.2.2.2.2.2.1, y.2.2.2.2.2.2.2.2.2.2.2.2))
  else none
  else none) (fun y2 =>
  some (.inr (.inr y2))) o
  else none
  else none)
  else none
  else none
  else none)
  else
  bif Nat.beq (List.length d6) (List.length d6) then
  some (.inr (.inl (changes, loose, d, d2, d3, d4, d5, d6)))
  else none
def law03_DeviceLast_l1_1_1_1_1_1_1_0_1_0n2g (s : Int × Int × Int × (List (Int × Int × Int × (List Int) × Bool × ((List Int) × Int × Int))) × Int × Int × (List (Int × (List Int))) × Int × ((List Int) × Int × Int) × Int × Bool × (List (List Int)) × (List (List Int))) : Option ((Int × Int × Int × (List (Int × Int × Int × (List Int) × Bool × ((List Int) × Int × Int))) × Int × Int × (List (Int × (List Int))) × Int × ((List Int) × Int × Int) × Int × Bool × (List (List Int)) × (List (List Int))) ⊕ ((Int × Int × (List (Int × (List Int))) × Int × ((List Int) × Int × Int) × Int × Bool × (List (List Int))) ⊕ (Bool))) := law03_DeviceLast_l1_1_1_1_1_1_1_0_1_0n2r s.1 s.2.1 s.2.2.1 s.2.2.2.1 s.2.2.2.2.1 s.2.2.2.2.2.1 s.2.2.2.2.2.2.1 s.2.2.2.2.2.2.2.1 s.2.2.2.2.2.2.2.2.1 s.2.2.2.2.2.2.2.2.2.1 s.2.2.2.2.2.2.2.2.2.2.1 s.2.2.2.2.2.2.2.2.2.2.2.1 s.2.2.2.2.2.2.2.2.2.2.2.2
theorem law03_DeviceLast_l1_1_1_1_1_1_1_0_1_0n2_ok : SoundD Try.prog (.loop (subC (bodyC Try.f5) [1, 1, 1, 1, 1, 1, 1, 0, 1, 0, 0])) (loopD law03_DeviceLast_l1_1_1_1_1_1_1_0_1_0n2S.xe law03_DeviceLast_l1_1_1_1_1_1_1_0_1_0n2X (loopC law03_DeviceLast_l1_1_1_1_1_1_1_0_1_0n2g)) :=
  loop_sound (S := law03_DeviceLast_l1_1_1_1_1_1_1_0_1_0n2S.xe) (X := law03_DeviceLast_l1_1_1_1_1_1_1_0_1_0n2X) law03_DeviceLast_env (h := (.two .no (.two .no (.two (.two .no (.two .no (.two .no (.two .no (.two .no (.two .no (.two .no (.two .no (.over (altD law03_DeviceLast_l1_1_1_1_1_1_1_0_1_0_0_1_1_0_0_1_1_1_1_1_1_1_1_0S.fit (loopD law03_DeviceLast_l1_1_1_1_1_1_1_0_1_0_0_1_1_0_0_1_1_1_1_1_1_1_1_0S.xe law03_DeviceLast_l1_1_1_1_1_1_1_0_1_0_0_1_1_0_0_1_1_1_1_1_1_1_1_0X (loopC law03_DeviceLast_l1_1_1_1_1_1_1_0_1_0_0_1_1_0_0_1_1_1_1_1_1_1_1_0g)) (loopD law03_DeviceLast_l1_1_1_1_1_1_1_0_1_0_0_1_1_0_0_1_1_1_1_1_1_1_1_0n2S.xe law03_DeviceLast_l1_1_1_1_1_1_1_0_1_0_0_1_1_0_0_1_1_1_1_1_1_1_1_0n2X (loopC law03_DeviceLast_l1_1_1_1_1_1_1_0_1_0_0_1_1_0_0_1_1_1_1_1_1_1_1_0n2g)))))))))))) .no)))) (hok_of [.den (.loop (subC (bodyC Try.f5) [1, 1, 1, 1, 1, 1, 1, 0, 1, 0, 0, 1, 1, 0, 0, 1, 1, 1, 1, 1, 1, 1, 1, 0, 0])) (altD law03_DeviceLast_l1_1_1_1_1_1_1_0_1_0_0_1_1_0_0_1_1_1_1_1_1_1_1_0S.fit (loopD law03_DeviceLast_l1_1_1_1_1_1_1_0_1_0_0_1_1_0_0_1_1_1_1_1_1_1_1_0S.xe law03_DeviceLast_l1_1_1_1_1_1_1_0_1_0_0_1_1_0_0_1_1_1_1_1_1_1_1_0X (loopC law03_DeviceLast_l1_1_1_1_1_1_1_0_1_0_0_1_1_0_0_1_1_1_1_1_1_1_1_0g)) (loopD law03_DeviceLast_l1_1_1_1_1_1_1_0_1_0_0_1_1_0_0_1_1_1_1_1_1_1_1_0n2S.xe law03_DeviceLast_l1_1_1_1_1_1_1_0_1_0_0_1_1_0_0_1_1_1_1_1_1_1_1_0n2X (loopC law03_DeviceLast_l1_1_1_1_1_1_1_0_1_0_0_1_1_0_0_1_1_1_1_1_1_1_1_0n2g)))] (by kernel_rfl) ⟨(altD_ok law03_DeviceLast_l1_1_1_1_1_1_1_0_1_0_0_1_1_0_0_1_1_1_1_1_1_1_1_0_ok law03_DeviceLast_l1_1_1_1_1_1_1_0_1_0_0_1_1_0_0_1_1_1_1_1_1_1_1_0n2_ok), trivial⟩) (shp_ok law03_DeviceLast_l1_1_1_1_1_1_1_0_1_0n2S) law03_DeviceLast_l1_1_1_1_1_1_1_0_1_0n2X_ok law03_DeviceLast_l1_1_1_1_1_1_1_0_1_0n2g (fun s => by kernel_rfl)
def law03_DeviceLast_XK0 : Shp := ⟨1, 0, [(0, .d .bool)], []⟩
def law03_DeviceLast_X : XS := .one .ret law03_DeviceLast_XK0.xe
theorem law03_DeviceLast_X_ok : law03_DeviceLast_X.OK := XS.one_ok (shp_ok law03_DeviceLast_XK0)
def law03_DeviceLast (sectors : Int) (script : List (Int × Int × Int × (List Int) × Bool × ((List Int) × Int × Int))) : Option ((Bool)) :=
  (law03_lives).bind fun r =>
  bif !r then
  (law03_lives).bind fun r2 =>
  some r2
  else
  (law03_fits sectors script).bind fun r3 =>
  bif !r3 then
  (law03_lives).bind fun r4 =>
  some r4
  else
  (show Option ((Int × (List (Int × Int × Int × (List Int) × Bool × ((List Int) × Int × Int))) × Int) ⊕ (Int × (List (Int × Int × Int × (List Int) × Bool × ((List Int) × Int × Int))) × Int × (List (Int × (List Int))) × Int × ((List Int) × Int × Int) × Int × Bool × (List (List Int)))) from
  (device_New sectors).bind fun r5 =>
  Sum.elim (fun y =>
  some (.inl (sectors, script, y))) (fun y2 =>
  bif Nat.beq (List.length y2.2.2.2.2.2.2) (List.length y2.2.2.2.2.2.2) then
  some (.inr (sectors, script, y2.1, y2.2.1, y2.2.2.1, y2.2.2.2.1, y2.2.2.2.2.1, y2.2.2.2.2.2.1, y2.2.2.2.2.2.2))
  else none) r5).bind fun j =>
  Sum.elim (fun y3 =>
  bif neI y3.2.2 0 then
  some false
  else
  makeG y3.1 16 (
  shortK y3.1.toNat (
  bif Nat.beq y3.1.toNat (List.length (List.replicate y3.1.toNat ([] : List Int))) then
  (loopC law03_DeviceLast_l1_1_1_1_1_0_1_0g (y3.1, y3.2.1, (y3.1.toNat : Nat), 0, List.replicate y3.1.toNat ([] : List Int))).bind fun o =>
  shortK (List.length o.2.1) (
  bif Nat.beq (List.length o.2.2) (List.length o.2.2) then
  (loopC law03_DeviceLast_l1_1_1_1_1_1_1_0_1_0g (o.1, 0, 0, o.2.1, (List.length o.2.1 : Nat), 0, o.2.2)).bind fun o2 =>
  Sum.elim (fun y5 =>
  (device_Device_Changes).bind fun r6 =>
  bif eqI r6 y5.1 then
  (device_Device_Loose).bind fun r7 =>
  bif eqI r7 y5.2 then
  (device_Device_Off_3).bind fun r8 =>
  bif !r8 then
  (device_Device_On_3).bind fun r9 =>
  some (!r9)
  else
  some false
  else
  some false
  else
  some false) (fun y6 =>
  some y6) o2
  else none)
  else none))) (fun y4 =>
  bif neI y4.2.2.1 0 then
  some false
  else
  makeG y4.1 16 (
  shortK y4.1.toNat (
  bif Nat.beq y4.1.toNat (List.length (List.replicate y4.1.toNat ([] : List Int))) then
  bif Nat.beq (List.length y4.2.2.2.2.2.2.2.2) (List.length y4.2.2.2.2.2.2.2.2) then
  (loopC law03_DeviceLast_l1_1_1_1_1_0_1_0n2g (y4.1, y4.2.1, (y4.1.toNat : Nat), 0, y4.2.2.2.1, y4.2.2.2.2.1, y4.2.2.2.2.2.1, y4.2.2.2.2.2.2.1, y4.2.2.2.2.2.2.2.1, List.replicate y4.1.toNat ([] : List Int), y4.2.2.2.2.2.2.2.2)).bind fun o3 =>
  shortK (List.length o3.2.1) (
  bif Nat.beq (List.length o3.2.2.2.2.2.2.2.1) (List.length o3.2.2.2.2.2.2.2.1) then
  bif Nat.beq (List.length o3.2.2.2.2.2.2.2.2) (List.length o3.2.2.2.2.2.2.2.2) then
  (loopC law03_DeviceLast_l1_1_1_1_1_1_1_0_1_0n2g (o3.1, 0, 0, o3.2.1, (List.length o3.2.1 : Nat), 0, o3.2.2.1, o3.2.2.2.1, o3.2.2.2.2.1, o3.2.2.2.2.2.1, o3.2.2.2.2.2.2.1, o3.2.2.2.2.2.2.2.1, o3.2.2.2.2.2.2.2.2)).bind fun o4 =>
  Sum.elim (fun y7 =>
  winK y7.2.2.2.2.2.2.2 0 (List.length y7.2.2.2.2.2.2.2) fun w =>
  (device_Device_Changes_2 (w, y7.2.2.1, y7.2.2.2.1, y7.2.2.2.2.1, y7.2.2.2.2.2.1, y7.2.2.2.2.2.2.1)).bind fun r10 =>
  bif eqI r10 y7.1 then
  winK y7.2.2.2.2.2.2.2 0 (List.length y7.2.2.2.2.2.2.2) fun w2 =>
  (device_Device_Loose_2 (w2, y7.2.2.1, y7.2.2.2.1, y7.2.2.2.2.1, y7.2.2.2.2.2.1, y7.2.2.2.2.2.2.1)).bind fun r11 =>
  bif eqI r11 y7.2.1 then
  winK y7.2.2.2.2.2.2.2 0 (List.length y7.2.2.2.2.2.2.2) fun w3 =>
  (device_Device_Off (w3, y7.2.2.1, y7.2.2.2.1, y7.2.2.2.2.1, y7.2.2.2.2.2.1, y7.2.2.2.2.2.2.1)).bind fun r12 =>
  bif !r12 then
  bif Nat.beq (List.length y7.2.2.2.2.2.2.2) (List.length y7.2.2.2.2.2.2.2) then
  (device_Device_On y7.2.2.1 y7.2.2.2.1 y7.2.2.2.2.1 y7.2.2.2.2.2.1 y7.2.2.2.2.2.2.1 y7.2.2.2.2.2.2.2).bind fun r13 =>
  some (!r13.1)
  else none
  else
  some false
  else
  some false
  else
  some false) (fun y8 =>
  some y8) o4
  else none
  else none)
  else none
  else none))) j
def law03_DeviceLast_S : Sig := ⟨5, [.d (.int .i64), .d c5], [], 0, law03_DeviceLast_X⟩
def law03_DeviceLast_fn (x : Int × (List (Int × Int × Int × (List Int) × Bool × ((List Int) × Int × Int)))) : Option ((Bool)) := law03_DeviceLast x.1 x.2
theorem law03_DeviceLast_ok : FnOK Try.prog law03_DeviceLast_S law03_DeviceLast_fn :=
  fn_ok law03_DeviceLast_env (h := (.two .no (.two .no (.join (fun _ => law03_DeviceLast_j1_1) .no (.two .no (.two .no (.two (.two .no (.over (altD law03_DeviceLast_l1_1_1_1_1_0_1_0S.fit (loopD law03_DeviceLast_l1_1_1_1_1_0_1_0S.xe law03_DeviceLast_l1_1_1_1_1_0_1_0X (loopC law03_DeviceLast_l1_1_1_1_1_0_1_0g)) (loopD law03_DeviceLast_l1_1_1_1_1_0_1_0n2S.xe law03_DeviceLast_l1_1_1_1_1_0_1_0n2X (loopC law03_DeviceLast_l1_1_1_1_1_0_1_0n2g))))) (.two .no (.two (.two .no (.over (altD law03_DeviceLast_l1_1_1_1_1_1_1_0_1_0S.fit (loopD law03_DeviceLast_l1_1_1_1_1_1_1_0_1_0S.xe law03_DeviceLast_l1_1_1_1_1_1_1_0_1_0X (loopC law03_DeviceLast_l1_1_1_1_1_1_1_0_1_0g)) (loopD law03_DeviceLast_l1_1_1_1_1_1_1_0_1_0n2S.xe law03_DeviceLast_l1_1_1_1_1_1_1_0_1_0n2X (loopC law03_DeviceLast_l1_1_1_1_1_1_1_0_1_0n2g))))) .no))))))))) Try.func5 (hok_of [.xs (fun _ => law03_DeviceLast_j1_1), .den (.loop (subC (bodyC Try.f5) [1, 1, 1, 1, 1, 0, 1, 0, 0])) (altD law03_DeviceLast_l1_1_1_1_1_0_1_0S.fit (loopD law03_DeviceLast_l1_1_1_1_1_0_1_0S.xe law03_DeviceLast_l1_1_1_1_1_0_1_0X (loopC law03_DeviceLast_l1_1_1_1_1_0_1_0g)) (loopD law03_DeviceLast_l1_1_1_1_1_0_1_0n2S.xe law03_DeviceLast_l1_1_1_1_1_0_1_0n2X (loopC law03_DeviceLast_l1_1_1_1_1_0_1_0n2g))), .den (.loop (subC (bodyC Try.f5) [1, 1, 1, 1, 1, 1, 1, 0, 1, 0, 0])) (altD law03_DeviceLast_l1_1_1_1_1_1_1_0_1_0S.fit (loopD law03_DeviceLast_l1_1_1_1_1_1_1_0_1_0S.xe law03_DeviceLast_l1_1_1_1_1_1_1_0_1_0X (loopC law03_DeviceLast_l1_1_1_1_1_1_1_0_1_0g)) (loopD law03_DeviceLast_l1_1_1_1_1_1_1_0_1_0n2S.xe law03_DeviceLast_l1_1_1_1_1_1_1_0_1_0n2X (loopC law03_DeviceLast_l1_1_1_1_1_1_1_0_1_0n2g)))] (by kernel_rfl) ⟨(oneX_ok law03_DeviceLast_j1_1_ok), (altD_ok law03_DeviceLast_l1_1_1_1_1_0_1_0_ok law03_DeviceLast_l1_1_1_1_1_0_1_0n2_ok), (altD_ok law03_DeviceLast_l1_1_1_1_1_1_1_0_1_0_ok law03_DeviceLast_l1_1_1_1_1_1_1_0_1_0n2_ok), trivial⟩) (by kernel_rfl) law03_DeviceLast_X_ok (fun x => by kernel_rfl)

end Go.Proofs.Ytamfpgmpofncoaa

/- Devices: where no power is cut. -/
set_option maxRecDepth 100000
set_option linter.unusedSimpArgs false
set_option linter.unusedVariables false
namespace Go.Proofs.Ytamfpgmpofncoaa
open Go.Tm Go.Ab

theorem last_init (n : Nat) (hn : n ≤ 10) (script : List OpT) (x : DevT) (hs : x.2.2.2.2.2.length = n) :
    loopC law03_DeviceLast_l1_1_1_1_1_0_1_0n2g ((n : Int), script, (n : Int), 0, x.1, x.2.1, x.2.2.1, x.2.2.2.1, x.2.2.2.2.1, List.replicate n [], x.2.2.2.2.2) = some ((n : Int), script, x.1, x.2.1, x.2.2.1, x.2.2.2.1, x.2.2.2.2.1, List.replicate n sec0, x.2.2.2.2.2) := by
  have := loop_run law03_DeviceLast_l1_1_1_1_1_0_1_0n2g (fun i => ((n : Int), script, (n : Int), (i : Int), x.1, x.2.1, x.2.2.1, x.2.2.2.1, x.2.2.2.2.1, List.replicate i sec0 ++ List.replicate (n - i) ([] : List Int), x.2.2.2.2.2))
    (fun _ => ((n : Int), script, x.1, x.2.1, x.2.2.1, x.2.2.2.1, x.2.2.2.2.1, List.replicate n sec0, x.2.2.2.2.2)) n ?_ ?_
  · simpa using this
  · show law03_DeviceLast_l1_1_1_1_1_0_1_0n2r (n : Int) script (n : Int) (n : Int) x.1 x.2.1 x.2.2.1 x.2.2.2.1 x.2.2.2.2.1 (List.replicate n sec0 ++ List.replicate (n - n) []) x.2.2.2.2.2 = _
    unfold law03_DeviceLast_l1_1_1_1_1_0_1_0n2r
    rw [ltI_f (by simp), beq_self, beq_self]
    simp
  · intro i hi
    refine .inl ⟨?_, rfl⟩
    show law03_DeviceLast_l1_1_1_1_1_0_1_0n2r (n : Int) script (n : Int) (i : Int) x.1 x.2.1 x.2.2.1 x.2.2.2.1 x.2.2.2.2.1 (List.replicate i sec0 ++ List.replicate (n - i) []) x.2.2.2.2.2 = _
    unfold law03_DeviceLast_l1_1_1_1_1_0_1_0n2r
    have hl : (List.replicate i sec0 ++ List.replicate (n - i) ([] : List Int)).length = n := by simp; omega
    have hset : (List.replicate i sec0 ++ List.replicate (n - i) ([] : List Int)).set i sec0 = List.replicate (i + 1) sec0 ++ List.replicate (n - (i + 1)) [] := by
      rw [List.set_append_right _ _ (by simp), List.length_replicate, Nat.sub_self, show n - i = (n - (i + 1)) + 1 by omega, List.replicate_succ, List.set_cons_zero, List.replicate_succ' (n := i), List.append_assoc]
      rfl
    have hget : (List.replicate i sec0 ++ List.replicate (n - i) ([] : List Int))[i]? = some [] := by
      rw [List.getElem?_append_right (by simp), List.length_replicate, Nat.sub_self, show n - i = (n - (i + 1)) + 1 by omega, List.replicate_succ]; rfl
    have hl2 : (List.replicate (i + 1) sec0 ++ List.replicate (n - (i + 1)) ([] : List Int)).length = n := by simp; omega
    rw [ltI_t (by omega), win_all _ _ (by rw [List.length_replicate])]
    rw [show List.replicate 256 (0 : Int) = sec0 from rfl]
    simp only [Int.toNat_natCast, hl, hset, hget, hl2, Option.bind_some, beq_self, cond_true]
    rw [inI_t (by omega), W64_in (by omega)]
    rfl

theorem last_inner {n m : Nat} {x : DevT} {last : List (List Int)} (h : Fine n m x last) (hn : n ≤ 10) (hm : m ≤ 1000) (sec ch lo t48 t49 : Int) (script : List OpT) :
    loopC law03_DeviceLast_l1_1_1_1_1_1_1_0_1_0_0_1_1_0_0_1_1_1_1_1_1_1_1_0n2g (sec, ch, lo, script, t48, t49, (last.length : Nat), 0, x.1, x.2.1, x.2.2.1, x.2.2.2.1, x.2.2.2.2.1, last, x.2.2.2.2.2) =
      some (.inl (sec, ch, lo, script, t48, t49, x.1, x.2.1, x.2.2.1, x.2.2.2.1, x.2.2.2.2.1, last, x.2.2.2.2.2)) := by
  have ok := h.ok (by omega) (by omega)
  have hl := h.len
  have := loop_run law03_DeviceLast_l1_1_1_1_1_1_1_0_1_0_0_1_1_0_0_1_1_1_1_1_1_1_1_0n2g (fun i => (sec, ch, lo, script, t48, t49, ((last.length : Nat) : Int), (i : Int), x.1, x.2.1, x.2.2.1, x.2.2.2.1, x.2.2.2.2.1, last, x.2.2.2.2.2))
    (fun _ => .inl (sec, ch, lo, script, t48, t49, x.1, x.2.1, x.2.2.1, x.2.2.2.1, x.2.2.2.2.1, last, x.2.2.2.2.2)) n ?_ ?_
  · exact this
  · show law03_DeviceLast_l1_1_1_1_1_1_1_0_1_0_0_1_1_0_0_1_1_1_1_1_1_1_1_0n2r sec ch lo script t48 t49 (last.length : Nat) (n : Int) x.1 x.2.1 x.2.2.1 x.2.2.2.1 x.2.2.2.2.1 last x.2.2.2.2.2 = _
    unfold law03_DeviceLast_l1_1_1_1_1_1_1_0_1_0_0_1_1_0_0_1_1_1_1_1_1_1_1_0n2r
    rw [ltI_f (by omega), beq_self, beq_self]; rfl
  · intro i hi
    refine .inl ⟨?_, rfl⟩
    show law03_DeviceLast_l1_1_1_1_1_1_1_0_1_0_0_1_1_0_0_1_1_1_1_1_1_1_1_0n2r sec ch lo script t48 t49 (last.length : Nat) (i : Int) x.1 x.2.1 x.2.2.1 x.2.2.2.1 x.2.2.2.2.1 last x.2.2.2.2.2 = _
    unfold law03_DeviceLast_l1_1_1_1_1_1_1_0_1_0_0_1_1_0_0_1_1_1_1_1_1_1_1_0n2r
    obtain ⟨b, h1, h2⟩ := h.read hi
    rw [ltI_t (by omega), beq_self, read_y _ _ ok, h2]
    simp only [Option.bind_some, cond_true, cond_false, neI_f rfl, Int.toNat_natCast, h1]
    rw [win_all _ _ rfl, inI_t (by omega), eqS_t rfl, beq_self, beq_self, W64_in (by omega)]
    rfl

/-- what the script came to so far -/
def LastInv (n : Nat) (script : List OpT) (i : Nat) (s : Int × Int × Int × List OpT × Int × Int × (List (Int × (List Int))) × Int × ((List Int) × Int × Int) × Int × Bool × (List (List Int)) × (List (List Int))) : Prop :=
  ∃ (x : DevT) (last : List (List Int)), Fine n i x last ∧ s = ((n : Int), x.2.2.2.1, ((x.1.length : Nat) : Int), script, ((script.length : Nat) : Int), (i : Int), x.1, x.2.1, x.2.2.1, x.2.2.2.1, x.2.2.2.2.1, last, x.2.2.2.2.2)

theorem last_step {n : Nat} (hn : 1 ≤ n ∧ n ≤ 10) {script : List OpT} (hs : script.length ≤ 60) (hf : ∀ o, o ∈ script → fitO o) {i : Nat} (hi : i < script.length) {s} (h : LastInv n script i s) :
    ∃ s', law03_DeviceLast_l1_1_1_1_1_1_1_0_1_0n2g s = some (.inl s') ∧ LastInv n script (i + 1) s' := by
  obtain ⟨x, last, h, rfl⟩ := h
  have ok := h.ok (by omega) (by omega)
  have hl := h.len
  have hlo := h.l
  have hch := h.ch
  have ho := hf _ (List.getElem_mem hi)
  show ∃ s', law03_DeviceLast_l1_1_1_1_1_1_1_0_1_0n2r (n : Int) x.2.2.2.1 (x.1.length : Nat) script (script.length : Nat) (i : Int) x.1 x.2.1 x.2.2.1 x.2.2.2.1 x.2.2.2.2.1 last x.2.2.2.2.2 = some (.inl s') ∧ LastInv n script (i + 1) s'
  unfold law03_DeviceLast_l1_1_1_1_1_1_1_0_1_0n2r
  rw [ltI_t (by omega), idx_in hi]
  simp only [Option.bind_some, cond_true]
  generalize script[i] = o at ho ⊢
  by_cases hk : (WU64 o.1).tmod 6 = 1
  · rw [eqI_t hk, beq_self, barrier_x x ok]
    obtain ⟨y, e1, e2, e3, e4, e5⟩ := h.barrier
    rw [e1]
    simp only [Option.bind_some, cond_true, neI_f rfl, cond_false, beq_self]
    refine ⟨_, rfl, y, last, e2, ?_⟩
    rw [W64_in (by omega), W64_in (by omega), e3, e4]
    rfl
  · obtain ⟨p0, p1⟩ := place_in o.2.1 n (by omega)
    rw [eqI_f hk, show WU64 (n : Int) = (n : Int) from WU64_in (by omega), eqI_f (show ¬ (n : Int) = 0 by omega), short_ok (by have := ho.1; omega), minI_sub, full_is]
    simp only [Option.bind_some, cond_true, cond_false, beq_self]
    rw [show fullS o.2.2.1 (subL o.2.2.2.1 0 (minI (List.length o.2.2.2.1 : Nat) 256)) = bytesO o from rfl]
    generalize W64 ((WU64 o.2.1).tmod (n : Int)) = p at p0 p1 ⊢
    have hp : p = (p.toNat : Int) := by omega
    rw [write_y _ _ x ok (by rw [bytesO_len]; omega)]
    obtain ⟨y, e1, e2, e3, e4, _⟩ := h.write ⟨p0, p1⟩ (bytesO_len o)
    have e5 : y.1.length = x.1.length + 1 := by rw [e3]; simp
    rw [e1]
    simp only [Option.bind_some, neI_f rfl, cond_false]
    rw [inI_t (by omega), List.getElem?_eq_getElem (show p.toNat < last.length by omega)]
    simp only [Option.bind_some, cond_true]
    rw [short_ok (by omega), List.length_set, beq_self, W64_in (by omega), W64_in (by omega), show ((last.length : Nat) : Int) = (((last.set p.toNat (bytesO o)).length : Nat) : Int) by rw [List.length_set], last_inner e2 (by omega) (by omega)]
    simp only [Option.bind_some, cond_true, Sum.elim_inl, beq_self]
    refine ⟨_, rfl, y, _, e2, ?_⟩
    rw [W64_in (by omega), e4, e5]
    rfl

theorem last_true (n : Int) (script : List OpT) (hl : script.length ≤ 9223372036854775807) (hs : ∀ o, o ∈ script → o.2.2.2.1.length ≤ 9223372036854775807 ∧ o.2.2.2.2.2.1.length ≤ 9223372036854775807) : law03_DeviceLast n script = some true := by
  unfold law03_DeviceLast
  rw [lives_is]
  simp only [Option.bind_some, Bool.not_true, cond_false]
  rcases fits_is n script hl hs with ⟨h1, h2, h3, h4, h5⟩ | h1
  · rw [h1]
    simp only [Option.bind_some, Bool.not_true, cond_false]
    rw [new_is n (by omega)]
    obtain ⟨m, rfl⟩ : ∃ m : Nat, n = m := ⟨n.toNat, by omega⟩
    simp only [Option.bind_some, Sum.elim_inr, beq_self, cond_true, neI_f rfl, cond_false, Int.toNat_natCast]
    have h0 := Fine.new m
    rw [make_ok (by omega) (by omega), short_ok (by omega), List.length_replicate, beq_self, last_init m (by omega) script (newD m) h0.s]
    simp only [Option.bind_some, cond_true, beq_self]
    rw [short_ok (by omega)]
    have hlast : ∀ s, LastInv m script script.length s → ∃ r, law03_DeviceLast_l1_1_1_1_1_1_1_0_1_0n2g s = some (.inr r) ∧ ∃ (x : DevT) (last : List (List Int)), Fine m script.length x last ∧ r = .inl (x.2.2.2.1, ((x.1.length : Nat) : Int), x.1, x.2.1, x.2.2.1, x.2.2.2.1, x.2.2.2.2.1, x.2.2.2.2.2) := by
      rintro s ⟨x, last, h, rfl⟩
      refine ⟨_, ?_, x, last, h, rfl⟩
      show law03_DeviceLast_l1_1_1_1_1_1_1_0_1_0n2r (m : Int) x.2.2.2.1 (x.1.length : Nat) script (script.length : Nat) (script.length : Nat) x.1 x.2.1 x.2.2.1 x.2.2.2.1 x.2.2.2.2.1 last x.2.2.2.2.2 = _
      unfold law03_DeviceLast_l1_1_1_1_1_1_1_0_1_0n2r
      rw [ltI_f (by omega), beq_self]; rfl
    obtain ⟨r, g1, x, last, g2, g3⟩ := loop_inv law03_DeviceLast_l1_1_1_1_1_1_1_0_1_0n2g script.length (LastInv m script) _ hlast
      (fun i s hi h => .inl (last_step (by omega) h4 h5 hi h)) ⟨newD m, _, h0, rfl⟩
    refine (congrArg (fun z => Option.bind z _) g1).trans ?_
    rw [g3]
    simp only [Option.bind_some, Sum.elim_inl]
    rw [win_all _ _ rfl, show ∀ y : List (List Int) × List (Int × List Int) × Int × (List Int × Int × Int) × Int × Bool, device_Device_Changes_2 y = some y.2.2.2.2.1 from fun _ => rfl]
    simp only [Option.bind_some, eqI_t rfl, cond_true]
    rw [win_all _ _ rfl, show ∀ y : List (List Int) × List (Int × List Int) × Int × (List Int × Int × Int) × Int × Bool, device_Device_Loose_2 y = shortK (List.length y.2.1) (some ((List.length y.2.1 : Nat) : Int)) from fun _ => rfl]
    rw [short_ok (by have := g2.l; have := g2.ch; simp only; omega)]
    simp only [Option.bind_some, eqI_t rfl, cond_true]
    rw [win_all _ _ rfl, off_x, g2.off]
    simp only [Option.bind_some, Bool.not_false, cond_true, beq_self]
    rw [on_is]; rfl
  · rw [h1]; rfl

end Go.Proofs.Ytamfpgmpofncoaa
