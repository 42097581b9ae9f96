/- Typed functions of Go functions, printed by tm.py; each is what the typed machine comes to. -/
import Derived.Test.YtfjikgkcleefiaaDoorTm12
import Derived.Test.YtfjikgkcleefiaaDoorProg
set_option maxRecDepth 100000
set_option linter.unusedVariables false
noncomputable section
namespace Go.Proofs.YtfjikgkcleefiaaDoor
open Go.Tm Go.Ab

def c0 : U := (.arr 8 (.int .u32))
def c1 : U := (.st (.cons (.int .i64) (.one (.int .u32))))
/- wardshiplaw06.lives, run -/
def law06_lives : Option Bool := some true
theorem law06_lives_run : runK Tryd.prog (runs Tryd.prog 20 [11, 13, 15, 17, 30, 35, 36, 37, 41, 42, 43, 44, 45, 50, 51, 52, 53, 54, 55, 56, 67, 68, 69, 70, 71, 72, 73, 81, 82] 6) 20 10 [] = some (.v .bool true) := by kernel_rfl
def law06_lives_ent : Ent := entD 10 [] (.one .bool) fun _ => law06_lives
theorem law06_lives_entok : EntOK Tryd.prog law06_lives_ent := closed_ok law06_lives_run

/- vec.Leq -/
def vec_Leq_E : List Ent := []
theorem vec_Leq_env : EnvOK Tryd.prog vec_Leq_E := env_nil _
def vec_Leq_l1_0_1_0X_1 : Shp := { n := 18, ds := [(4, .bool)], cs := [], hk := [] }
def vec_Leq_l1_0_1_0X_0 : Shp := { n := 18, ds := [], cs := [], hk := [] }
def vec_Leq_l1_0_1_0X : XS := .or (.exit 0) vec_Leq_l1_0_1_0X_0.xe (.one .ret vec_Leq_l1_0_1_0X_1.xe)
theorem vec_Leq_l1_0_1_0X_ok : vec_Leq_l1_0_1_0X.OK 0 := XS.or_ok (shp_ok (S := vec_Leq_l1_0_1_0X_0) (by kernel_rfl)) (XS.one_ok (shp_ok (S := vec_Leq_l1_0_1_0X_1) (by kernel_rfl)))
def vec_Leq_l1_0_1_0S : Shp := { n := 18, ds := [(7, c0), (8, (.int .i64))], cs := [(3, (.ptr 1 (.one (.arr 8 .leaf)) []))], hk := [.gone, .var 24 c0] }
def vec_Leq_l1_0_1_0r (t7 : List Int) (t8 : Int) (b : List Int) : Option (((List Int) × Int × (List Int)) ⊕ ((Unit) ⊕ (Bool))) :=
  bif ltI t8 8 then
  (idxI t7 t8).bind fun x =>
  bif inI t8 8 then
  (b[t8.toNat]?).bind fun x2 =>
  bif ltI x2 x then
  some (.inr (.inr false))
  else
  some (.inl (t7, W64 (t8 + 1), b))
  else none
  else
  some (.inr (.inl ()))
def vec_Leq_l1_0_1_0g (s : (List Int) × Int × (List Int)) : Option (((List Int) × Int × (List Int)) ⊕ ((Unit) ⊕ (Bool))) := vec_Leq_l1_0_1_0r s.1 s.2.1 s.2.2
theorem vec_Leq_l1_0_1_0_ok : SoundD Tryd.prog 0 (.loop (subC (bodyC Tryd.f13) [1, 0, 1, 0, 0])) (loopD vec_Leq_l1_0_1_0S.xe vec_Leq_l1_0_1_0X (loopC vec_Leq_l1_0_1_0g)) :=
  loop_sound (S := vec_Leq_l1_0_1_0S.xe) (X := vec_Leq_l1_0_1_0X) vec_Leq_env (h := .no) (hok_of [] (by kernel_rfl) trivial) (shp_ok (by kernel_rfl)) vec_Leq_l1_0_1_0X_ok vec_Leq_l1_0_1_0g (fun s => by kernel_rfl)
def vec_Leq (a : List Int) (b : List Int) : Option (Bool) :=
  (loopC vec_Leq_l1_0_1_0g (a, 0, b)).bind fun o =>
  Sum.elim (fun y =>
  some true) (fun y2 =>
  some y2) o
def vec_Leq_ent : Ent := entD 13 [c0, c0] (.one .bool) fun x => vec_Leq x.1 x.2
theorem vec_Leq_entok : EntOK Tryd.prog vec_Leq_ent :=
  fn_ok vec_Leq_env (h := (.two .no (.two (.two .no (.over (loopD vec_Leq_l1_0_1_0S.xe vec_Leq_l1_0_1_0X (loopC vec_Leq_l1_0_1_0g)))) .no))) Tryd.func13 (hok_of [.den (.loop (subC (bodyC Tryd.f13) [1, 0, 1, 0, 0])) (loopD vec_Leq_l1_0_1_0S.xe vec_Leq_l1_0_1_0X (loopC vec_Leq_l1_0_1_0g))] (by kernel_rfl) ⟨vec_Leq_l1_0_1_0_ok, trivial⟩) (by kernel_rfl) (fun x => by kernel_rfl)

/- vec.Order -/
def vec_Order_E : List Ent := [vec_Leq_ent]
theorem vec_Order_env : EnvOK Tryd.prog vec_Order_E := env_cons vec_Leq_entok (env_nil _)
def vec_Order (a : List Int) (b : List Int) : Option (Int) :=
  bif eqU c0 a b then
  some 0
  else
  (vec_Leq a b).bind fun r =>
  bif r then
  some (-1)
  else
  (vec_Leq b a).bind fun r2 =>
  bif r2 then
  some 1
  else
  some 2
def vec_Order_ent : Ent := entD 11 [c0, c0] (.one (.int .i64)) fun x => vec_Order x.1 x.2
theorem vec_Order_entok : EntOK Tryd.prog vec_Order_ent :=
  fn_ok vec_Order_env (h := .no) Tryd.func11 (hok_of [] (by kernel_rfl) trivial) (by kernel_rfl) (fun x => by kernel_rfl)

/- wardshipref06.Order -/
def ref06_Order_E : List Ent := []
theorem ref06_Order_env : EnvOK Tryd.prog ref06_Order_E := env_nil _
def ref06_Order_j1_1_0_1_0_0_1_0_0_0 : Shp := { n := 41, ds := [(5, .bool), (6, .bool), (7, (.int .i64))], cs := [(2, (.ptr 0 (.one (.arr 8 .leaf)) [])), (3, (.ptr 1 (.one (.arr 8 .leaf)) []))], hk := [.var 24 c0, .var 24 c0] }
def ref06_Order_j1_1_0_1_0_0_1_0_0 : XS := .one .normal ref06_Order_j1_1_0_1_0_0_1_0_0_0.xe
theorem ref06_Order_j1_1_0_1_0_0_1_0_0_ok : ref06_Order_j1_1_0_1_0_0_1_0_0.OK 0 := XS.one_ok (shp_ok (S := ref06_Order_j1_1_0_1_0_0_1_0_0_0) (by kernel_rfl))
def ref06_Order_l1_1_0_1_0X_0 : Shp := { n := 41, ds := [(5, .bool), (6, .bool)], cs := [], hk := [] }
def ref06_Order_l1_1_0_1_0X : XS := .one (.exit 0) ref06_Order_l1_1_0_1_0X_0.xe
theorem ref06_Order_l1_1_0_1_0X_ok : ref06_Order_l1_1_0_1_0X.OK 0 := XS.one_ok (shp_ok (S := ref06_Order_l1_1_0_1_0X_0) (by kernel_rfl))
def ref06_Order_l1_1_0_1_0S : Shp := { n := 41, ds := [(5, .bool), (6, .bool), (7, (.int .i64))], cs := [(2, (.ptr 0 (.one (.arr 8 .leaf)) [])), (3, (.ptr 1 (.one (.arr 8 .leaf)) []))], hk := [.var 24 c0, .var 24 c0] }
def ref06_Order_l1_1_0_1_0r (less : Bool) (more : Bool) (i : Int) (a : List Int) (b : List Int) : Option ((Bool × Bool × Int × (List Int) × (List Int)) ⊕ ((Bool × Bool))) :=
  bif ltI i 8 then
  (show Option ((Bool × Bool × Int × (List Int) × (List Int))) from
  bif less then
  some (true, more, i, a, b)
  else
  bif inI i 8 then
  (a[i.toNat]?).bind fun x =>
  bif inI i 8 then
  (b[i.toNat]?).bind fun x2 =>
  some (ltI x x2, more, i, a, b)
  else none
  else none).bind fun j =>
  bif j.2.1 then
  some (.inl (j.1, true, W64 (j.2.2.1 + 1), j.2.2.2.1, j.2.2.2.2))
  else
  bif inI j.2.2.1 8 then
  (j.2.2.2.1[j.2.2.1.toNat]?).bind fun x3 =>
  bif inI j.2.2.1 8 then
  (j.2.2.2.2[j.2.2.1.toNat]?).bind fun x4 =>
  some (.inl (j.1, ltI x4 x3, W64 (j.2.2.1 + 1), j.2.2.2.1, j.2.2.2.2))
  else none
  else none
  else
  some (.inr (less, more))
def ref06_Order_l1_1_0_1_0g (s : Bool × Bool × Int × (List Int) × (List Int)) : Option ((Bool × Bool × Int × (List Int) × (List Int)) ⊕ ((Bool × Bool))) := ref06_Order_l1_1_0_1_0r s.1 s.2.1 s.2.2.1 s.2.2.2.1 s.2.2.2.2
theorem ref06_Order_l1_1_0_1_0_ok : SoundD Tryd.prog 0 (.loop (subC (bodyC Tryd.f12) [1, 1, 0, 1, 0, 0])) (loopD ref06_Order_l1_1_0_1_0S.xe ref06_Order_l1_1_0_1_0X (loopC ref06_Order_l1_1_0_1_0g)) :=
  loop_sound (S := ref06_Order_l1_1_0_1_0S.xe) (X := ref06_Order_l1_1_0_1_0X) ref06_Order_env (h := (.two .no (.two (.join ref06_Order_j1_1_0_1_0_0_1_0_0 .no .no) .no))) (hok_of [.xs ref06_Order_j1_1_0_1_0_0_1_0_0] (by kernel_rfl) ⟨ref06_Order_j1_1_0_1_0_0_1_0_0_ok, trivial⟩) (shp_ok (by kernel_rfl)) ref06_Order_l1_1_0_1_0X_ok ref06_Order_l1_1_0_1_0g (fun s => by kernel_rfl)
def ref06_Order_j1_1_1_0_0_0 : Shp := { n := 41, ds := [(5, .bool), (6, .bool), (32, .bool)], cs := [], hk := [] }
def ref06_Order_j1_1_1_0_0 : XS := .one .normal ref06_Order_j1_1_1_0_0_0.xe
theorem ref06_Order_j1_1_1_0_0_ok : ref06_Order_j1_1_1_0_0.OK 0 := XS.one_ok (shp_ok (S := ref06_Order_j1_1_1_0_0_0) (by kernel_rfl))
def ref06_Order (a : List Int) (b : List Int) : Option (Int) :=
  (loopC ref06_Order_l1_1_0_1_0g (false, false, 0, a, b)).bind fun o =>
  (show Option ((Bool × Bool × Bool)) from
  bif o.1 then
  some (o.1, o.2, o.2)
  else
  some (o.1, o.2, false)).bind fun j =>
  bif j.2.2 then
  some 2
  else
  bif j.1 then
  some (-1)
  else
  bif j.2.1 then
  some 1
  else
  some 0
def ref06_Order_ent : Ent := entD 12 [c0, c0] (.one (.int .i64)) fun x => ref06_Order x.1 x.2
theorem ref06_Order_entok : EntOK Tryd.prog ref06_Order_ent :=
  fn_ok ref06_Order_env (h := (.two .no (.two .no (.two (.two .no (.over (loopD ref06_Order_l1_1_0_1_0S.xe ref06_Order_l1_1_0_1_0X (loopC ref06_Order_l1_1_0_1_0g)))) (.two (.join ref06_Order_j1_1_1_0_0 .no .no) .no))))) Tryd.func12 (hok_of [.den (.loop (subC (bodyC Tryd.f12) [1, 1, 0, 1, 0, 0])) (loopD ref06_Order_l1_1_0_1_0S.xe ref06_Order_l1_1_0_1_0X (loopC ref06_Order_l1_1_0_1_0g)), .xs ref06_Order_j1_1_1_0_0] (by kernel_rfl) ⟨ref06_Order_l1_1_0_1_0_ok, ref06_Order_j1_1_1_0_0_ok, trivial⟩) (by kernel_rfl) (fun x => by kernel_rfl)

/- wardshipref06.Leq -/
def ref06_Leq_E : List Ent := [ref06_Order_ent]
theorem ref06_Leq_env : EnvOK Tryd.prog ref06_Leq_E := env_cons ref06_Order_entok (env_nil _)
def ref06_Leq (a : List Int) (b : List Int) : Option (Bool) :=
  (ref06_Order a b).bind fun r =>
  some (leI r 0)
def ref06_Leq_ent : Ent := entD 14 [c0, c0] (.one .bool) fun x => ref06_Leq x.1 x.2
theorem ref06_Leq_entok : EntOK Tryd.prog ref06_Leq_ent :=
  fn_ok ref06_Leq_env (h := .no) Tryd.func14 (hok_of [] (by kernel_rfl) trivial) (by kernel_rfl) (fun x => by kernel_rfl)

/- vec.Join -/
def vec_Join_E : List Ent := []
theorem vec_Join_env : EnvOK Tryd.prog vec_Join_E := env_nil _
def vec_Join_l1_0_1_0X_0 : Shp := { n := 21, ds := [], cs := [(2, (.ptr 0 (.one (.arr 8 .leaf)) [])), (4, (.ptr 2 (.one (.arr 8 .leaf)) []))], hk := [.var 24 c0, .gone, .var 24 c0] }
def vec_Join_l1_0_1_0X : XS := .one (.exit 0) vec_Join_l1_0_1_0X_0.xe
theorem vec_Join_l1_0_1_0X_ok : vec_Join_l1_0_1_0X.OK 0 := XS.one_ok (shp_ok (S := vec_Join_l1_0_1_0X_0) (by kernel_rfl))
def vec_Join_l1_0_1_0S : Shp := { n := 21, ds := [(7, c0), (8, (.int .i64))], cs := [(2, (.ptr 0 (.one (.arr 8 .leaf)) [])), (4, (.ptr 2 (.one (.arr 8 .leaf)) []))], hk := [.var 24 c0, .gone, .var 24 c0] }
def vec_Join_l1_0_1_0r (t7 : List Int) (t8 : Int) (a : List Int) (t4 : List Int) : Option (((List Int) × Int × (List Int) × (List Int)) ⊕ (((List Int) × (List Int)))) :=
  bif ltI t8 8 then
  (idxI t7 t8).bind fun x =>
  bif inI t8 8 then
  (a[t8.toNat]?).bind fun x2 =>
  bif inI t8 8 then
  (a[t8.toNat]?).bind fun _x =>
  some (.inl (t7, W64 (t8 + 1), a.set t8.toNat (maxI x2 x), t4))
  else none
  else none
  else
  some (.inr (a, t4))
def vec_Join_l1_0_1_0g (s : (List Int) × Int × (List Int) × (List Int)) : Option (((List Int) × Int × (List Int) × (List Int)) ⊕ (((List Int) × (List Int)))) := vec_Join_l1_0_1_0r s.1 s.2.1 s.2.2.1 s.2.2.2
theorem vec_Join_l1_0_1_0_ok : SoundD Tryd.prog 0 (.loop (subC (bodyC Tryd.f15) [1, 0, 1, 0, 0])) (loopD vec_Join_l1_0_1_0S.xe vec_Join_l1_0_1_0X (loopC vec_Join_l1_0_1_0g)) :=
  loop_sound (S := vec_Join_l1_0_1_0S.xe) (X := vec_Join_l1_0_1_0X) vec_Join_env (h := .no) (hok_of [] (by kernel_rfl) trivial) (shp_ok (by kernel_rfl)) vec_Join_l1_0_1_0X_ok vec_Join_l1_0_1_0g (fun s => by kernel_rfl)
def vec_Join (a : List Int) (b : List Int) : Option ((List Int)) :=
  (loopC vec_Join_l1_0_1_0g (b, 0, a, List.replicate 8 0)).bind fun o =>
  some o.1
def vec_Join_ent : Ent := entD 15 [c0, c0] (.one c0) fun x => vec_Join x.1 x.2
theorem vec_Join_entok : EntOK Tryd.prog vec_Join_ent :=
  fn_ok vec_Join_env (h := (.two .no (.two (.two .no (.over (loopD vec_Join_l1_0_1_0S.xe vec_Join_l1_0_1_0X (loopC vec_Join_l1_0_1_0g)))) .no))) Tryd.func15 (hok_of [.den (.loop (subC (bodyC Tryd.f15) [1, 0, 1, 0, 0])) (loopD vec_Join_l1_0_1_0S.xe vec_Join_l1_0_1_0X (loopC vec_Join_l1_0_1_0g))] (by kernel_rfl) ⟨vec_Join_l1_0_1_0_ok, trivial⟩) (by kernel_rfl) (fun x => by kernel_rfl)

/- wardshipref06.Join -/
def ref06_Join_E : List Ent := []
theorem ref06_Join_env : EnvOK Tryd.prog ref06_Join_E := env_nil _
def ref06_Join_l1_1_0_1_0X_0 : Shp := { n := 30, ds := [], cs := [(4, (.ptr 2 (.one (.arr 8 .leaf)) [])), (5, (.ptr 3 (.one (.arr 8 .leaf)) []))], hk := [.gone, .gone, .var 24 c0, .var 24 c0] }
def ref06_Join_l1_1_0_1_0X : XS := .one (.exit 0) ref06_Join_l1_1_0_1_0X_0.xe
theorem ref06_Join_l1_1_0_1_0X_ok : ref06_Join_l1_1_0_1_0X.OK 0 := XS.one_ok (shp_ok (S := ref06_Join_l1_1_0_1_0X_0) (by kernel_rfl))
def ref06_Join_l1_1_0_1_0S : Shp := { n := 30, ds := [(6, (.int .i64))], cs := [(2, (.ptr 0 (.one (.arr 8 .leaf)) [])), (3, (.ptr 1 (.one (.arr 8 .leaf)) [])), (4, (.ptr 2 (.one (.arr 8 .leaf)) [])), (5, (.ptr 3 (.one (.arr 8 .leaf)) []))], hk := [.var 24 c0, .var 24 c0, .var 24 c0, .var 24 c0] }
def ref06_Join_l1_1_0_1_0r (i : Int) (a : List Int) (b : List Int) (t4 : List Int) (out : List Int) : Option ((Int × (List Int) × (List Int) × (List Int) × (List Int)) ⊕ (((List Int) × (List Int)))) :=
  bif ltI i 8 then
  bif inI i 8 then
  (a[i.toNat]?).bind fun x =>
  bif inI i 8 then
  (out[i.toNat]?).bind fun _x =>
  bif inI i 8 then
  (b[i.toNat]?).bind fun x2 =>
  bif inI i 8 then
  (a[i.toNat]?).bind fun x3 =>
  bif ltI x3 x2 then
  bif inI i 8 then
  (b[i.toNat]?).bind fun x4 =>
  bif inI i 8 then
  ((out.set i.toNat x)[i.toNat]?).bind fun _x2 =>
  some (.inl (W64 (i + 1), a, b, t4, (out.set i.toNat x).set i.toNat x4))
  else none
  else none
  else
  some (.inl (W64 (i + 1), a, b, t4, out.set i.toNat x))
  else none
  else none
  else none
  else none
  else
  some (.inr (t4, out))
def ref06_Join_l1_1_0_1_0g (s : Int × (List Int) × (List Int) × (List Int) × (List Int)) : Option ((Int × (List Int) × (List Int) × (List Int) × (List Int)) ⊕ (((List Int) × (List Int)))) := ref06_Join_l1_1_0_1_0r s.1 s.2.1 s.2.2.1 s.2.2.2.1 s.2.2.2.2
theorem ref06_Join_l1_1_0_1_0_ok : SoundD Tryd.prog 0 (.loop (subC (bodyC Tryd.f16) [1, 1, 0, 1, 0, 0])) (loopD ref06_Join_l1_1_0_1_0S.xe ref06_Join_l1_1_0_1_0X (loopC ref06_Join_l1_1_0_1_0g)) :=
  loop_sound (S := ref06_Join_l1_1_0_1_0S.xe) (X := ref06_Join_l1_1_0_1_0X) ref06_Join_env (h := .no) (hok_of [] (by kernel_rfl) trivial) (shp_ok (by kernel_rfl)) ref06_Join_l1_1_0_1_0X_ok ref06_Join_l1_1_0_1_0g (fun s => by kernel_rfl)
def ref06_Join (a : List Int) (b : List Int) : Option ((List Int)) :=
  (loopC ref06_Join_l1_1_0_1_0g (0, a, b, List.replicate 8 0, List.replicate 8 0)).bind fun o =>
  some o.2
def ref06_Join_ent : Ent := entD 16 [c0, c0] (.one c0) fun x => ref06_Join x.1 x.2
theorem ref06_Join_entok : EntOK Tryd.prog ref06_Join_ent :=
  fn_ok ref06_Join_env (h := (.two .no (.two .no (.two (.two .no (.over (loopD ref06_Join_l1_1_0_1_0S.xe ref06_Join_l1_1_0_1_0X (loopC ref06_Join_l1_1_0_1_0g)))) .no)))) Tryd.func16 (hok_of [.den (.loop (subC (bodyC Tryd.f16) [1, 1, 0, 1, 0, 0])) (loopD ref06_Join_l1_1_0_1_0S.xe ref06_Join_l1_1_0_1_0X (loopC ref06_Join_l1_1_0_1_0g))] (by kernel_rfl) ⟨ref06_Join_l1_1_0_1_0_ok, trivial⟩) (by kernel_rfl) (fun x => by kernel_rfl)

/- vec.Meet -/
def vec_Meet_E : List Ent := []
theorem vec_Meet_env : EnvOK Tryd.prog vec_Meet_E := env_nil _
def vec_Meet_l1_0_1_0X_0 : Shp := { n := 21, ds := [], cs := [(2, (.ptr 0 (.one (.arr 8 .leaf)) [])), (4, (.ptr 2 (.one (.arr 8 .leaf)) []))], hk := [.var 24 c0, .gone, .var 24 c0] }
def vec_Meet_l1_0_1_0X : XS := .one (.exit 0) vec_Meet_l1_0_1_0X_0.xe
theorem vec_Meet_l1_0_1_0X_ok : vec_Meet_l1_0_1_0X.OK 0 := XS.one_ok (shp_ok (S := vec_Meet_l1_0_1_0X_0) (by kernel_rfl))
def vec_Meet_l1_0_1_0S : Shp := { n := 21, ds := [(7, c0), (8, (.int .i64))], cs := [(2, (.ptr 0 (.one (.arr 8 .leaf)) [])), (4, (.ptr 2 (.one (.arr 8 .leaf)) []))], hk := [.var 24 c0, .gone, .var 24 c0] }
def vec_Meet_l1_0_1_0r (t7 : List Int) (t8 : Int) (a : List Int) (t4 : List Int) : Option (((List Int) × Int × (List Int) × (List Int)) ⊕ (((List Int) × (List Int)))) :=
  bif ltI t8 8 then
  (idxI t7 t8).bind fun x =>
  bif inI t8 8 then
  (a[t8.toNat]?).bind fun x2 =>
  bif inI t8 8 then
  (a[t8.toNat]?).bind fun _x =>
  some (.inl (t7, W64 (t8 + 1), a.set t8.toNat (minI x2 x), t4))
  else none
  else none
  else
  some (.inr (a, t4))
def vec_Meet_l1_0_1_0g (s : (List Int) × Int × (List Int) × (List Int)) : Option (((List Int) × Int × (List Int) × (List Int)) ⊕ (((List Int) × (List Int)))) := vec_Meet_l1_0_1_0r s.1 s.2.1 s.2.2.1 s.2.2.2
theorem vec_Meet_l1_0_1_0_ok : SoundD Tryd.prog 0 (.loop (subC (bodyC Tryd.f17) [1, 0, 1, 0, 0])) (loopD vec_Meet_l1_0_1_0S.xe vec_Meet_l1_0_1_0X (loopC vec_Meet_l1_0_1_0g)) :=
  loop_sound (S := vec_Meet_l1_0_1_0S.xe) (X := vec_Meet_l1_0_1_0X) vec_Meet_env (h := .no) (hok_of [] (by kernel_rfl) trivial) (shp_ok (by kernel_rfl)) vec_Meet_l1_0_1_0X_ok vec_Meet_l1_0_1_0g (fun s => by kernel_rfl)
def vec_Meet (a : List Int) (b : List Int) : Option ((List Int)) :=
  (loopC vec_Meet_l1_0_1_0g (b, 0, a, List.replicate 8 0)).bind fun o =>
  some o.1
def vec_Meet_ent : Ent := entD 17 [c0, c0] (.one c0) fun x => vec_Meet x.1 x.2
theorem vec_Meet_entok : EntOK Tryd.prog vec_Meet_ent :=
  fn_ok vec_Meet_env (h := (.two .no (.two (.two .no (.over (loopD vec_Meet_l1_0_1_0S.xe vec_Meet_l1_0_1_0X (loopC vec_Meet_l1_0_1_0g)))) .no))) Tryd.func17 (hok_of [.den (.loop (subC (bodyC Tryd.f17) [1, 0, 1, 0, 0])) (loopD vec_Meet_l1_0_1_0S.xe vec_Meet_l1_0_1_0X (loopC vec_Meet_l1_0_1_0g))] (by kernel_rfl) ⟨vec_Meet_l1_0_1_0_ok, trivial⟩) (by kernel_rfl) (fun x => by kernel_rfl)

/- wardshipref06.Meet -/
def ref06_Meet_E : List Ent := []
theorem ref06_Meet_env : EnvOK Tryd.prog ref06_Meet_E := env_nil _
def ref06_Meet_l1_1_0_1_0X_0 : Shp := { n := 30, ds := [], cs := [(4, (.ptr 2 (.one (.arr 8 .leaf)) [])), (5, (.ptr 3 (.one (.arr 8 .leaf)) []))], hk := [.gone, .gone, .var 24 c0, .var 24 c0] }
def ref06_Meet_l1_1_0_1_0X : XS := .one (.exit 0) ref06_Meet_l1_1_0_1_0X_0.xe
theorem ref06_Meet_l1_1_0_1_0X_ok : ref06_Meet_l1_1_0_1_0X.OK 0 := XS.one_ok (shp_ok (S := ref06_Meet_l1_1_0_1_0X_0) (by kernel_rfl))
def ref06_Meet_l1_1_0_1_0S : Shp := { n := 30, ds := [(6, (.int .i64))], cs := [(2, (.ptr 0 (.one (.arr 8 .leaf)) [])), (3, (.ptr 1 (.one (.arr 8 .leaf)) [])), (4, (.ptr 2 (.one (.arr 8 .leaf)) [])), (5, (.ptr 3 (.one (.arr 8 .leaf)) []))], hk := [.var 24 c0, .var 24 c0, .var 24 c0, .var 24 c0] }
def ref06_Meet_l1_1_0_1_0r (i : Int) (a : List Int) (b : List Int) (t4 : List Int) (out : List Int) : Option ((Int × (List Int) × (List Int) × (List Int) × (List Int)) ⊕ (((List Int) × (List Int)))) :=
  bif ltI i 8 then
  bif inI i 8 then
  (a[i.toNat]?).bind fun x =>
  bif inI i 8 then
  (out[i.toNat]?).bind fun _x =>
  bif inI i 8 then
  (b[i.toNat]?).bind fun x2 =>
  bif inI i 8 then
  (a[i.toNat]?).bind fun x3 =>
  bif ltI x2 x3 then
  bif inI i 8 then
  (b[i.toNat]?).bind fun x4 =>
  bif inI i 8 then
  ((out.set i.toNat x)[i.toNat]?).bind fun _x2 =>
  some (.inl (W64 (i + 1), a, b, t4, (out.set i.toNat x).set i.toNat x4))
  else none
  else none
  else
  some (.inl (W64 (i + 1), a, b, t4, out.set i.toNat x))
  else none
  else none
  else none
  else none
  else
  some (.inr (t4, out))
def ref06_Meet_l1_1_0_1_0g (s : Int × (List Int) × (List Int) × (List Int) × (List Int)) : Option ((Int × (List Int) × (List Int) × (List Int) × (List Int)) ⊕ (((List Int) × (List Int)))) := ref06_Meet_l1_1_0_1_0r s.1 s.2.1 s.2.2.1 s.2.2.2.1 s.2.2.2.2
theorem ref06_Meet_l1_1_0_1_0_ok : SoundD Tryd.prog 0 (.loop (subC (bodyC Tryd.f18) [1, 1, 0, 1, 0, 0])) (loopD ref06_Meet_l1_1_0_1_0S.xe ref06_Meet_l1_1_0_1_0X (loopC ref06_Meet_l1_1_0_1_0g)) :=
  loop_sound (S := ref06_Meet_l1_1_0_1_0S.xe) (X := ref06_Meet_l1_1_0_1_0X) ref06_Meet_env (h := .no) (hok_of [] (by kernel_rfl) trivial) (shp_ok (by kernel_rfl)) ref06_Meet_l1_1_0_1_0X_ok ref06_Meet_l1_1_0_1_0g (fun s => by kernel_rfl)
def ref06_Meet (a : List Int) (b : List Int) : Option ((List Int)) :=
  (loopC ref06_Meet_l1_1_0_1_0g (0, a, b, List.replicate 8 0, List.replicate 8 0)).bind fun o =>
  some o.2
def ref06_Meet_ent : Ent := entD 18 [c0, c0] (.one c0) fun x => ref06_Meet x.1 x.2
theorem ref06_Meet_entok : EntOK Tryd.prog ref06_Meet_ent :=
  fn_ok ref06_Meet_env (h := (.two .no (.two .no (.two (.two .no (.over (loopD ref06_Meet_l1_1_0_1_0S.xe ref06_Meet_l1_1_0_1_0X (loopC ref06_Meet_l1_1_0_1_0g)))) .no)))) Tryd.func18 (hok_of [.den (.loop (subC (bodyC Tryd.f18) [1, 1, 0, 1, 0, 0])) (loopD ref06_Meet_l1_1_0_1_0S.xe ref06_Meet_l1_1_0_1_0X (loopC ref06_Meet_l1_1_0_1_0g))] (by kernel_rfl) ⟨ref06_Meet_l1_1_0_1_0_ok, trivial⟩) (by kernel_rfl) (fun x => by kernel_rfl)

/- wardshiplaw06.VecOrders -/
def law06_VecOrders_E : List Ent := [law06_lives_ent, vec_Order_ent, ref06_Order_ent, vec_Leq_ent, ref06_Leq_ent, vec_Join_ent, ref06_Join_ent, vec_Meet_ent, ref06_Meet_ent]
theorem law06_VecOrders_env : EnvOK Tryd.prog law06_VecOrders_E := env_cons law06_lives_entok (env_cons vec_Order_entok (env_cons ref06_Order_entok (env_cons vec_Leq_entok (env_cons ref06_Leq_entok (env_cons vec_Join_entok (env_cons ref06_Join_entok (env_cons vec_Meet_entok (env_cons ref06_Meet_entok (env_nil _)))))))))
def law06_VecOrders (a : List Int) (b : List Int) : Option (Bool) :=
  (law06_lives).bind fun r =>
  bif !r then
  some false
  else
  (vec_Order a b).bind fun r2 =>
  (ref06_Order a b).bind fun r3 =>
  bif eqI r2 r3 then
  (vec_Leq a b).bind fun r4 =>
  (ref06_Leq a b).bind fun r5 =>
  bif r4 == r5 then
  (vec_Join a b).bind fun r6 =>
  (ref06_Join a b).bind fun r7 =>
  bif eqU c0 r6 r7 then
  (vec_Meet a b).bind fun r8 =>
  (ref06_Meet a b).bind fun r9 =>
  some (eqU c0 r8 r9)
  else
  some false
  else
  some false
  else
  some false
def law06_VecOrders_ent : Ent := entD 3 [c0, c0] (.one .bool) fun x => law06_VecOrders x.1 x.2
theorem law06_VecOrders_entok : EntOK Tryd.prog law06_VecOrders_ent :=
  fn_ok law06_VecOrders_env (h := .no) Tryd.func3 (hok_of [] (by kernel_rfl) trivial) (by kernel_rfl) (fun x => by kernel_rfl)

/- wardshiplaw06.VecBounds -/
def law06_VecBounds_E : List Ent := [law06_lives_ent, vec_Join_ent, vec_Meet_ent, vec_Leq_ent]
theorem law06_VecBounds_env : EnvOK Tryd.prog law06_VecBounds_E := env_cons law06_lives_entok (env_cons vec_Join_entok (env_cons vec_Meet_entok (env_cons vec_Leq_entok (env_nil _))))
def law06_VecBounds (a : List Int) (b : List Int) (c : List Int) : Option (Bool) :=
  (law06_lives).bind fun r =>
  bif !r then
  some false
  else
  (vec_Join a b).bind fun r2 =>
  (vec_Meet a b).bind fun r3 =>
  (vec_Leq a r2).bind fun r4 =>
  bif !r4 then
  some false
  else
  (vec_Leq b r2).bind fun r5 =>
  bif !r5 then
  some false
  else
  (vec_Leq r3 a).bind fun r6 =>
  bif !r6 then
  some false
  else
  (vec_Leq r3 b).bind fun r7 =>
  bif !r7 then
  some false
  else
  (vec_Leq r2 c).bind fun r8 =>
  (vec_Leq a c).bind fun r9 =>
  bif r9 then
  (vec_Leq b c).bind fun r10 =>
  bif r8 == r10 then
  (vec_Leq c r3).bind fun r11 =>
  (vec_Leq c a).bind fun r12 =>
  bif r12 then
  (vec_Leq c b).bind fun r13 =>
  some (r11 == r13)
  else
  some (r11 == false)
  else
  some false
  else
  bif r8 == false then
  (vec_Leq c r3).bind fun r14 =>
  (vec_Leq c a).bind fun r15 =>
  bif r15 then
  (vec_Leq c b).bind fun r16 =>
  some (r14 == r16)
  else
  some (r14 == false)
  else
  some false
def law06_VecBounds_ent : Ent := entD 4 [c0, c0, c0] (.one .bool) fun x => law06_VecBounds x.1 x.2.1 x.2.2
theorem law06_VecBounds_entok : EntOK Tryd.prog law06_VecBounds_ent :=
  fn_ok law06_VecBounds_env (h := .no) Tryd.func4 (hok_of [] (by kernel_rfl) trivial) (by kernel_rfl) (fun x => by kernel_rfl)

/- wardshiplaw06.VecLine -/
def law06_VecLine_E : List Ent := [law06_lives_ent, vec_Order_ent, vec_Leq_ent]
theorem law06_VecLine_env : EnvOK Tryd.prog law06_VecLine_E := env_cons law06_lives_entok (env_cons vec_Order_entok (env_cons vec_Leq_entok (env_nil _)))
def law06_VecLine_j1_1_1_1 : Shp := { n := 56, ds := [(6, .bool)], cs := [], hk := [] }
def law06_VecLine_j1_1_1_0 : Shp := { n := 56, ds := [], cs := [(3, (.ptr 0 (.one (.arr 8 .leaf)) [])), (4, (.ptr 1 (.one (.arr 8 .leaf)) [])), (5, (.ptr 2 (.one (.arr 8 .leaf)) []))], hk := [.var 24 c0, .var 24 c0, .var 24 c0] }
def law06_VecLine_j1_1_1 : XS := .or .normal law06_VecLine_j1_1_1_0.xe (.one .ret law06_VecLine_j1_1_1_1.xe)
theorem law06_VecLine_j1_1_1_ok : law06_VecLine_j1_1_1.OK 0 := XS.or_ok (shp_ok (S := law06_VecLine_j1_1_1_0) (by kernel_rfl)) (XS.one_ok (shp_ok (S := law06_VecLine_j1_1_1_1) (by kernel_rfl)))
def law06_VecLine (a : List Int) (b : List Int) (c : List Int) : Option (Bool) :=
  (law06_lives).bind fun r =>
  bif !r then
  some false
  else
  (vec_Order a b).bind fun r2 =>
  (vec_Order b a).bind fun r3 =>
  (show Option (((List Int) × (List Int) × (List Int)) ⊕ (Bool)) from
  bif eqI r2 2 then
  bif neI r3 2 then
  some (.inr false)
  else
  bif neI r2 2 then
  bif neI r3 (W64 (0 - r2)) then
  some (.inr false)
  else
  bif !((eqI r2 0) == (eqU c0 a b)) then
  some (.inr false)
  else
  some (.inl (a, b, c))
  else
  bif !((eqI r2 0) == (eqU c0 a b)) then
  some (.inr false)
  else
  some (.inl (a, b, c))
  else
  bif neI r2 2 then
  bif neI r3 (W64 (0 - r2)) then
  some (.inr false)
  else
  bif !((eqI r2 0) == (eqU c0 a b)) then
  some (.inr false)
  else
  some (.inl (a, b, c))
  else
  bif !((eqI r2 0) == (eqU c0 a b)) then
  some (.inr false)
  else
  some (.inl (a, b, c))).bind fun j =>
  Sum.elim (fun y =>
  (vec_Leq y.1 y.2.1).bind fun r4 =>
  bif !r4 then
  some true
  else
  (vec_Leq y.2.1 y.2.2).bind fun r5 =>
  bif !r5 then
  some true
  else
  (vec_Leq y.1 y.2.2).bind fun r6 =>
  some r6) (fun y2 =>
  some y2) j
def law06_VecLine_ent : Ent := entD 5 [c0, c0, c0] (.one .bool) fun x => law06_VecLine x.1 x.2.1 x.2.2
theorem law06_VecLine_entok : EntOK Tryd.prog law06_VecLine_ent :=
  fn_ok law06_VecLine_env (h := (.two .no (.two .no (.two .no (.join law06_VecLine_j1_1_1 .no .no))))) Tryd.func5 (hok_of [.xs law06_VecLine_j1_1_1] (by kernel_rfl) ⟨law06_VecLine_j1_1_1_ok, trivial⟩) (by kernel_rfl) (fun x => by kernel_rfl)

/- vec.Get -/
def vec_Get_E : List Ent := []
theorem vec_Get_env : EnvOK Tryd.prog vec_Get_E := env_nil _
def vec_Get (v : List Int) (rep : Int) : Option (Int) :=
  bif ltI rep 1 then
  some 0
  else
  bif ltI 8 rep then
  some 0
  else
  bif inI (W64 (rep - 1)) 8 then
  (v[(W64 (rep - 1)).toNat]?).bind fun x =>
  some x
  else none
def vec_Get_ent : Ent := entD 22 [c0, (.int .i64)] (.one (.int .u32)) fun x => vec_Get x.1 x.2
theorem vec_Get_entok : EntOK Tryd.prog vec_Get_ent :=
  fn_ok vec_Get_env (h := .no) Tryd.func22 (hok_of [] (by kernel_rfl) trivial) (by kernel_rfl) (fun x => by kernel_rfl)

/- vec.Has -/
def vec_Has_E : List Ent := [vec_Get_ent]
theorem vec_Has_env : EnvOK Tryd.prog vec_Has_E := env_cons vec_Get_entok (env_nil _)
def vec_Has (v : List Int) (id : Int × Int) : Option (Bool) :=
  bif leI 1 id.2 then
  (vec_Get v id.1).bind fun r =>
  some (leI id.2 r)
  else
  some false
def vec_Has_ent : Ent := entD 19 [c0, c1] (.one .bool) fun x => vec_Has x.1 x.2
theorem vec_Has_entok : EntOK Tryd.prog vec_Has_ent :=
  fn_ok vec_Has_env (h := .no) Tryd.func19 (hok_of [] (by kernel_rfl) trivial) (by kernel_rfl) (fun x => by kernel_rfl)

/- wardshiplaw06.VecMeans -/
def law06_VecMeans_E : List Ent := [law06_lives_ent, vec_Has_ent, vec_Join_ent, vec_Meet_ent, vec_Leq_ent]
theorem law06_VecMeans_env : EnvOK Tryd.prog law06_VecMeans_E := env_cons law06_lives_entok (env_cons vec_Has_entok (env_cons vec_Join_entok (env_cons vec_Meet_entok (env_cons vec_Leq_entok (env_nil _)))))
def law06_VecMeans (a : List Int) (b : List Int) (id : Int × Int) : Option (Bool) :=
  (law06_lives).bind fun r =>
  bif !r then
  some false
  else
  (vec_Has a id).bind fun r2 =>
  (vec_Has b id).bind fun r3 =>
  (vec_Join a b).bind fun r4 =>
  (vec_Has r4 id).bind fun r5 =>
  bif r2 then
  bif r5 == true then
  (vec_Meet a b).bind fun r6 =>
  (vec_Has r6 id).bind fun r7 =>
  bif r2 then
  bif r7 == r3 then
  (vec_Leq a b).bind fun r8 =>
  bif !r8 then
  some true
  else
  bif !r2 then
  some true
  else
  some r3
  else
  some false
  else
  bif r7 == false then
  (vec_Leq a b).bind fun r9 =>
  bif !r9 then
  some true
  else
  bif !r2 then
  some true
  else
  some r3
  else
  some false
  else
  some false
  else
  bif r5 == r3 then
  (vec_Meet a b).bind fun r10 =>
  (vec_Has r10 id).bind fun r11 =>
  bif r2 then
  bif r11 == r3 then
  (vec_Leq a b).bind fun r12 =>
  bif !r12 then
  some true
  else
  bif !r2 then
  some true
  else
  some r3
  else
  some false
  else
  bif r11 == false then
  (vec_Leq a b).bind fun r13 =>
  bif !r13 then
  some true
  else
  bif !r2 then
  some true
  else
  some r3
  else
  some false
  else
  some false
def law06_VecMeans_ent : Ent := entD 6 [c0, c0, c1] (.one .bool) fun x => law06_VecMeans x.1 x.2.1 x.2.2
theorem law06_VecMeans_entok : EntOK Tryd.prog law06_VecMeans_ent :=
  fn_ok law06_VecMeans_env (h := .no) Tryd.func6 (hok_of [] (by kernel_rfl) trivial) (by kernel_rfl) (fun x => by kernel_rfl)

/- vec.Next -/
def vec_Next_E : List Ent := []
theorem vec_Next_env : EnvOK Tryd.prog vec_Next_E := env_nil _
def vec_Next_j1_0_0 : Shp := { n := 26, ds := [(1, (.int .i64)), (11, .bool)], cs := [(2, (.ptr 0 (.one (.arr 8 .leaf)) [])), (4, (.ptr 1 (.one (.arr 8 .leaf)) []))], hk := [.var 24 c0, .var 24 c0] }
def vec_Next_j1_0 : XS := .one .normal vec_Next_j1_0_0.xe
theorem vec_Next_j1_0_ok : vec_Next_j1_0.OK 0 := XS.one_ok (shp_ok (S := vec_Next_j1_0_0) (by kernel_rfl))
def vec_Next (v : List Int) (rep : Int) : Option ((List Int) × Int) :=
  (show Option ((Int × Bool × (List Int) × (List Int))) from
  bif ltI rep 1 then
  some (rep, true, v, List.replicate 8 0)
  else
  some (rep, ltI 8 rep, v, List.replicate 8 0)).bind fun j =>
  bif j.2.1 then
  some (List.replicate 8 0, 1)
  else
  bif inI (W64 (j.1 - 1)) 8 then
  (j.2.2.1[(W64 (j.1 - 1)).toNat]?).bind fun x =>
  bif leI 1048576 x then
  some (List.replicate 8 0, 12)
  else
  bif inI (W64 (j.1 - 1)) 8 then
  (j.2.2.1[(W64 (j.1 - 1)).toNat]?).bind fun x2 =>
  bif inI (W64 (j.1 - 1)) 8 then
  (j.2.2.1[(W64 (j.1 - 1)).toNat]?).bind fun _x =>
  some (j.2.2.1.set ((W64 (j.1 - 1)).toNat) (WU32 (x2 + 1)), 0)
  else none
  else none
  else none
def vec_Next_ent : Ent := entD 20 [c0, (.int .i64)] (.tup [c0, (.int .i64)]) fun x => vec_Next x.1 x.2
theorem vec_Next_entok : EntOK Tryd.prog vec_Next_ent :=
  fn_ok vec_Next_env (h := (.two .no (.two (.join vec_Next_j1_0 .no .no) .no))) Tryd.func20 (hok_of [.xs vec_Next_j1_0] (by kernel_rfl) ⟨vec_Next_j1_0_ok, trivial⟩) (by kernel_rfl) (fun x => by kernel_rfl)

/- wardshipref06.Next -/
def ref06_Next_E : List Ent := []
theorem ref06_Next_env : EnvOK Tryd.prog ref06_Next_E := env_nil _
def ref06_Next_j1_0_0 : Shp := { n := 28, ds := [(1, (.int .i64)), (11, .bool)], cs := [(2, (.ptr 0 (.one (.arr 8 .leaf)) [])), (4, (.ptr 1 (.one (.arr 8 .leaf)) []))], hk := [.var 24 c0, .var 24 c0] }
def ref06_Next_j1_0 : XS := .one .normal ref06_Next_j1_0_0.xe
theorem ref06_Next_j1_0_ok : ref06_Next_j1_0.OK 0 := XS.one_ok (shp_ok (S := ref06_Next_j1_0_0) (by kernel_rfl))
def ref06_Next (v : List Int) (rep : Int) : Option ((List Int) × Int) :=
  (show Option ((Int × Bool × (List Int) × (List Int))) from
  bif ltI rep 1 then
  some (rep, true, v, List.replicate 8 0)
  else
  some (rep, ltI 8 rep, v, List.replicate 8 0)).bind fun j =>
  bif j.2.1 then
  some (List.replicate 8 0, 1)
  else
  bif inI (W64 (j.1 - 1)) 8 then
  (j.2.2.1[(W64 (j.1 - 1)).toNat]?).bind fun x =>
  bif leI 1048576 x then
  some (List.replicate 8 0, 12)
  else
  bif inI (W64 (j.1 - 1)) 8 then
  (j.2.2.1[(W64 (j.1 - 1)).toNat]?).bind fun x2 =>
  bif inI (W64 (j.1 - 1)) 8 then
  (j.2.2.1[(W64 (j.1 - 1)).toNat]?).bind fun _x =>
  some (j.2.2.1.set ((W64 (j.1 - 1)).toNat) (WU32 (x2 + 1)), 0)
  else none
  else none
  else none
def ref06_Next_ent : Ent := entD 21 [c0, (.int .i64)] (.tup [c0, (.int .i64)]) fun x => ref06_Next x.1 x.2
theorem ref06_Next_entok : EntOK Tryd.prog ref06_Next_ent :=
  fn_ok ref06_Next_env (h := (.two .no (.two (.join ref06_Next_j1_0 .no .no) .no))) Tryd.func21 (hok_of [.xs ref06_Next_j1_0] (by kernel_rfl) ⟨ref06_Next_j1_0_ok, trivial⟩) (by kernel_rfl) (fun x => by kernel_rfl)

/- wardshipref06.Get -/
def ref06_Get_E : List Ent := []
theorem ref06_Get_env : EnvOK Tryd.prog ref06_Get_E := env_nil _
def ref06_Get_l1_0_1_0X_1 : Shp := { n := 17, ds := [(4, (.int .u32))], cs := [], hk := [] }
def ref06_Get_l1_0_1_0X_0 : Shp := { n := 17, ds := [], cs := [], hk := [] }
def ref06_Get_l1_0_1_0X : XS := .or (.exit 0) ref06_Get_l1_0_1_0X_0.xe (.one .ret ref06_Get_l1_0_1_0X_1.xe)
theorem ref06_Get_l1_0_1_0X_ok : ref06_Get_l1_0_1_0X.OK 0 := XS.or_ok (shp_ok (S := ref06_Get_l1_0_1_0X_0) (by kernel_rfl)) (XS.one_ok (shp_ok (S := ref06_Get_l1_0_1_0X_1) (by kernel_rfl)))
def ref06_Get_l1_0_1_0S : Shp := { n := 17, ds := [(1, (.int .i64)), (5, (.int .i64))], cs := [(2, (.ptr 0 (.one (.arr 8 .leaf)) []))], hk := [.var 24 c0] }
def ref06_Get_l1_0_1_0r (rep : Int) (i : Int) (v : List Int) : Option ((Int × Int × (List Int)) ⊕ ((Unit) ⊕ (Int))) :=
  bif ltI i 8 then
  bif eqI (W64 (i + 1)) rep then
  bif inI i 8 then
  (v[i.toNat]?).bind fun x =>
  some (.inr (.inr x))
  else none
  else
  some (.inl (rep, W64 (i + 1), v))
  else
  some (.inr (.inl ()))
def ref06_Get_l1_0_1_0g (s : Int × Int × (List Int)) : Option ((Int × Int × (List Int)) ⊕ ((Unit) ⊕ (Int))) := ref06_Get_l1_0_1_0r s.1 s.2.1 s.2.2
theorem ref06_Get_l1_0_1_0_ok : SoundD Tryd.prog 0 (.loop (subC (bodyC Tryd.f23) [1, 0, 1, 0, 0])) (loopD ref06_Get_l1_0_1_0S.xe ref06_Get_l1_0_1_0X (loopC ref06_Get_l1_0_1_0g)) :=
  loop_sound (S := ref06_Get_l1_0_1_0S.xe) (X := ref06_Get_l1_0_1_0X) ref06_Get_env (h := .no) (hok_of [] (by kernel_rfl) trivial) (shp_ok (by kernel_rfl)) ref06_Get_l1_0_1_0X_ok ref06_Get_l1_0_1_0g (fun s => by kernel_rfl)
def ref06_Get (v : List Int) (rep : Int) : Option (Int) :=
  (loopC ref06_Get_l1_0_1_0g (rep, 0, v)).bind fun o =>
  Sum.elim (fun y =>
  some 0) (fun y2 =>
  some y2) o
def ref06_Get_ent : Ent := entD 23 [c0, (.int .i64)] (.one (.int .u32)) fun x => ref06_Get x.1 x.2
theorem ref06_Get_entok : EntOK Tryd.prog ref06_Get_ent :=
  fn_ok ref06_Get_env (h := (.two .no (.two (.two .no (.over (loopD ref06_Get_l1_0_1_0S.xe ref06_Get_l1_0_1_0X (loopC ref06_Get_l1_0_1_0g)))) .no))) Tryd.func23 (hok_of [.den (.loop (subC (bodyC Tryd.f23) [1, 0, 1, 0, 0])) (loopD ref06_Get_l1_0_1_0S.xe ref06_Get_l1_0_1_0X (loopC ref06_Get_l1_0_1_0g))] (by kernel_rfl) ⟨ref06_Get_l1_0_1_0_ok, trivial⟩) (by kernel_rfl) (fun x => by kernel_rfl)

/- wardshipref06.Has -/
def ref06_Has_E : List Ent := [ref06_Get_ent]
theorem ref06_Has_env : EnvOK Tryd.prog ref06_Has_E := env_cons ref06_Get_entok (env_nil _)
def ref06_Has (v : List Int) (id : Int × Int) : Option (Bool) :=
  bif ltI 0 id.2 then
  (ref06_Get v id.1).bind fun r =>
  some (leI id.2 r)
  else
  some false
def ref06_Has_ent : Ent := entD 24 [c0, c1] (.one .bool) fun x => ref06_Has x.1 x.2
theorem ref06_Has_entok : EntOK Tryd.prog ref06_Has_ent :=
  fn_ok ref06_Has_env (h := .no) Tryd.func24 (hok_of [] (by kernel_rfl) trivial) (by kernel_rfl) (fun x => by kernel_rfl)

/- vec.With -/
def vec_With_E : List Ent := []
theorem vec_With_env : EnvOK Tryd.prog vec_With_E := env_nil _
def vec_With_j1_0_0 : Shp := { n := 26, ds := [(12, .bool)], cs := [(2, (.ptr 0 (.one (.arr 8 .leaf)) [])), (3, (.ptr 1 (.one (.st (.cons .leaf (.one .leaf)))) [])), (4, (.ptr 2 (.one (.arr 8 .leaf)) []))], hk := [.var 24 c0, .var 31 c1, .var 24 c0] }
def vec_With_j1_0 : XS := .one .normal vec_With_j1_0_0.xe
theorem vec_With_j1_0_ok : vec_With_j1_0.OK 0 := XS.one_ok (shp_ok (S := vec_With_j1_0_0) (by kernel_rfl))
def vec_With (v : List Int) (id : Int × Int) : Option ((List Int)) :=
  (show Option ((Bool × (List Int) × (Int × Int) × (List Int))) from
  bif leI 1 id.1 then
  some (leI id.1 8, v, id, List.replicate 8 0)
  else
  some (false, v, id, List.replicate 8 0)).bind fun j =>
  bif j.1 then
  bif inI (W64 (j.2.2.1.1 - 1)) 8 then
  (j.2.1[(W64 (j.2.2.1.1 - 1)).toNat]?).bind fun x =>
  bif inI (W64 (j.2.2.1.1 - 1)) 8 then
  (j.2.1[(W64 (j.2.2.1.1 - 1)).toNat]?).bind fun _x =>
  some (j.2.1.set ((W64 (j.2.2.1.1 - 1)).toNat) (maxI x j.2.2.1.2))
  else none
  else none
  else
  some j.2.1
def vec_With_ent : Ent := entD 25 [c0, c1] (.one c0) fun x => vec_With x.1 x.2
theorem vec_With_entok : EntOK Tryd.prog vec_With_ent :=
  fn_ok vec_With_env (h := (.two .no (.two (.join vec_With_j1_0 .no .no) .no))) Tryd.func25 (hok_of [.xs vec_With_j1_0] (by kernel_rfl) ⟨vec_With_j1_0_ok, trivial⟩) (by kernel_rfl) (fun x => by kernel_rfl)

/- wardshipref06.One -/
def ref06_One_E : List Ent := []
theorem ref06_One_env : EnvOK Tryd.prog ref06_One_E := env_nil _
def ref06_One_l1_1_0_1_0X_0 : Shp := { n := 20, ds := [], cs := [(2, (.ptr 1 (.one (.arr 8 .leaf)) [])), (3, (.ptr 2 (.one (.arr 8 .leaf)) []))], hk := [.gone, .var 24 c0, .var 24 c0] }
def ref06_One_l1_1_0_1_0X : XS := .one (.exit 0) ref06_One_l1_1_0_1_0X_0.xe
theorem ref06_One_l1_1_0_1_0X_ok : ref06_One_l1_1_0_1_0X.OK 0 := XS.one_ok (shp_ok (S := ref06_One_l1_1_0_1_0X_0) (by kernel_rfl))
def ref06_One_l1_1_0_1_0S : Shp := { n := 20, ds := [(4, (.int .i64))], cs := [(1, (.ptr 0 (.one (.st (.cons .leaf (.one .leaf)))) [])), (2, (.ptr 1 (.one (.arr 8 .leaf)) [])), (3, (.ptr 2 (.one (.arr 8 .leaf)) []))], hk := [.var 31 c1, .var 24 c0, .var 24 c0] }
def ref06_One_l1_1_0_1_0r (i : Int) (id : Int × Int) (t2 : List Int) (out : List Int) : Option ((Int × (Int × Int) × (List Int) × (List Int)) ⊕ (((List Int) × (List Int)))) :=
  bif ltI i 8 then
  bif eqI (W64 (i + 1)) id.1 then
  bif inI i 8 then
  (out[i.toNat]?).bind fun _x =>
  some (.inl (W64 (i + 1), id, t2, out.set i.toNat id.2))
  else none
  else
  some (.inl (W64 (i + 1), id, t2, out))
  else
  some (.inr (t2, out))
def ref06_One_l1_1_0_1_0g (s : Int × (Int × Int) × (List Int) × (List Int)) : Option ((Int × (Int × Int) × (List Int) × (List Int)) ⊕ (((List Int) × (List Int)))) := ref06_One_l1_1_0_1_0r s.1 s.2.1 s.2.2.1 s.2.2.2
theorem ref06_One_l1_1_0_1_0_ok : SoundD Tryd.prog 0 (.loop (subC (bodyC Tryd.f34) [1, 1, 0, 1, 0, 0])) (loopD ref06_One_l1_1_0_1_0S.xe ref06_One_l1_1_0_1_0X (loopC ref06_One_l1_1_0_1_0g)) :=
  loop_sound (S := ref06_One_l1_1_0_1_0S.xe) (X := ref06_One_l1_1_0_1_0X) ref06_One_env (h := .no) (hok_of [] (by kernel_rfl) trivial) (shp_ok (by kernel_rfl)) ref06_One_l1_1_0_1_0X_ok ref06_One_l1_1_0_1_0g (fun s => by kernel_rfl)
def ref06_One (id : Int × Int) : Option ((List Int)) :=
  (loopC ref06_One_l1_1_0_1_0g (0, id, List.replicate 8 0, List.replicate 8 0)).bind fun o =>
  some o.2
def ref06_One_ent : Ent := entD 34 [c1] (.one c0) fun x => ref06_One x
theorem ref06_One_entok : EntOK Tryd.prog ref06_One_ent :=
  fn_ok ref06_One_env (h := (.two .no (.two .no (.two (.two .no (.over (loopD ref06_One_l1_1_0_1_0S.xe ref06_One_l1_1_0_1_0X (loopC ref06_One_l1_1_0_1_0g)))) .no)))) Tryd.func34 (hok_of [.den (.loop (subC (bodyC Tryd.f34) [1, 1, 0, 1, 0, 0])) (loopD ref06_One_l1_1_0_1_0S.xe ref06_One_l1_1_0_1_0X (loopC ref06_One_l1_1_0_1_0g))] (by kernel_rfl) ⟨ref06_One_l1_1_0_1_0_ok, trivial⟩) (by kernel_rfl) (fun x => by kernel_rfl)

/- wardshipref06.With -/
def ref06_With_E : List Ent := [ref06_One_ent, ref06_Join_ent]
theorem ref06_With_env : EnvOK Tryd.prog ref06_With_E := env_cons ref06_One_entok (env_cons ref06_Join_entok (env_nil _))
def ref06_With (v : List Int) (id : Int × Int) : Option ((List Int)) :=
  (ref06_One id).bind fun r =>
  (ref06_Join v r).bind fun r2 =>
  some r2
def ref06_With_ent : Ent := entD 26 [c0, c1] (.one c0) fun x => ref06_With x.1 x.2
theorem ref06_With_entok : EntOK Tryd.prog ref06_With_ent :=
  fn_ok ref06_With_env (h := .no) Tryd.func26 (hok_of [] (by kernel_rfl) trivial) (by kernel_rfl) (fun x => by kernel_rfl)

/- vec.Less -/
def vec_Less_E : List Ent := []
theorem vec_Less_env : EnvOK Tryd.prog vec_Less_E := env_nil _
def vec_Less (a : Int × Int) (b : Int × Int) : Option (Bool) :=
  bif neI a.2 b.2 then
  some (ltI a.2 b.2)
  else
  some (ltI a.1 b.1)
def vec_Less_ent : Ent := entD 27 [c1, c1] (.one .bool) fun x => vec_Less x.1 x.2
theorem vec_Less_entok : EntOK Tryd.prog vec_Less_ent :=
  fn_ok vec_Less_env (h := .no) Tryd.func27 (hok_of [] (by kernel_rfl) trivial) (by kernel_rfl) (fun x => by kernel_rfl)

/- wardshipref06.Less -/
def ref06_Less_E : List Ent := []
theorem ref06_Less_env : EnvOK Tryd.prog ref06_Less_E := env_nil _
def ref06_Less (a : Int × Int) (b : Int × Int) : Option (Bool) :=
  bif ltI a.2 b.2 then
  some true
  else
  bif eqI a.2 b.2 then
  some (ltI a.1 b.1)
  else
  some false
def ref06_Less_ent : Ent := entD 28 [c1, c1] (.one .bool) fun x => ref06_Less x.1 x.2
theorem ref06_Less_entok : EntOK Tryd.prog ref06_Less_ent :=
  fn_ok ref06_Less_env (h := .no) Tryd.func28 (hok_of [] (by kernel_rfl) trivial) (by kernel_rfl) (fun x => by kernel_rfl)

/- wardshiplaw06.VecEvents -/
def law06_VecEvents_E : List Ent := [law06_lives_ent, vec_Next_ent, ref06_Next_ent, vec_Get_ent, ref06_Get_ent, vec_Has_ent, ref06_Has_ent, vec_With_ent, ref06_With_ent, vec_Less_ent, ref06_Less_ent]
theorem law06_VecEvents_env : EnvOK Tryd.prog law06_VecEvents_E := env_cons law06_lives_entok (env_cons vec_Next_entok (env_cons ref06_Next_entok (env_cons vec_Get_entok (env_cons ref06_Get_entok (env_cons vec_Has_entok (env_cons ref06_Has_entok (env_cons vec_With_entok (env_cons ref06_With_entok (env_cons vec_Less_entok (env_cons ref06_Less_entok (env_nil _)))))))))))
def law06_VecEvents (v : List Int) (a : Int × Int) (b : Int × Int) : Option (Bool) :=
  (law06_lives).bind fun r =>
  bif !r then
  some false
  else
  (vec_Next v a.1).bind fun r2 =>
  (ref06_Next v a.1).bind fun r3 =>
  (vec_Get v a.1).bind fun r4 =>
  (ref06_Get v a.1).bind fun r5 =>
  bif eqI r4 r5 then
  (vec_Has v a).bind fun r6 =>
  (ref06_Has v a).bind fun r7 =>
  bif r6 == r7 then
  (vec_With v a).bind fun r8 =>
  (ref06_With v a).bind fun r9 =>
  bif eqU c0 r8 r9 then
  bif eqU c0 r2.1 r3.1 then
  bif eqI r2.2 r3.2 then
  (vec_Less a b).bind fun r10 =>
  (ref06_Less a b).bind fun r11 =>
  some (r10 == r11)
  else
  some false
  else
  some false
  else
  some false
  else
  some false
  else
  some false
def law06_VecEvents_ent : Ent := entD 7 [c0, c1, c1] (.one .bool) fun x => law06_VecEvents x.1 x.2.1 x.2.2
theorem law06_VecEvents_entok : EntOK Tryd.prog law06_VecEvents_ent :=
  fn_ok law06_VecEvents_env (h := .no) Tryd.func7 (hok_of [] (by kernel_rfl) trivial) (by kernel_rfl) (fun x => by kernel_rfl)

/- vec.Total -/
def vec_Total_E : List Ent := []
theorem vec_Total_env : EnvOK Tryd.prog vec_Total_E := env_nil _
def vec_Total_l1_1_0_1_0X_0 : Shp := { n := 16, ds := [(3, (.int .u64))], cs := [], hk := [] }
def vec_Total_l1_1_0_1_0X : XS := .one (.exit 0) vec_Total_l1_1_0_1_0X_0.xe
theorem vec_Total_l1_1_0_1_0X_ok : vec_Total_l1_1_0_1_0X.OK 0 := XS.one_ok (shp_ok (S := vec_Total_l1_1_0_1_0X_0) (by kernel_rfl))
def vec_Total_l1_1_0_1_0S : Shp := { n := 16, ds := [(3, (.int .u64)), (6, c0), (7, (.int .i64))], cs := [], hk := [] }
def vec_Total_l1_1_0_1_0r (n : Int) (t6 : List Int) (t7 : Int) : Option ((Int × (List Int) × Int) ⊕ ((Int))) :=
  bif ltI t7 8 then
  (idxI t6 t7).bind fun x =>
  some (.inl ((WU64 (n + (WU64 (x))), t6, W64 (t7 + 1))))
  else
  some (.inr n)
def vec_Total_l1_1_0_1_0g (s : Int × (List Int) × Int) : Option ((Int × (List Int) × Int) ⊕ ((Int))) := vec_Total_l1_1_0_1_0r s.1 s.2.1 s.2.2
theorem vec_Total_l1_1_0_1_0_ok : SoundD Tryd.prog 0 (.loop (subC (bodyC Tryd.f29) [1, 1, 0, 1, 0, 0])) (loopD vec_Total_l1_1_0_1_0S.xe vec_Total_l1_1_0_1_0X (loopC vec_Total_l1_1_0_1_0g)) :=
  loop_sound (S := vec_Total_l1_1_0_1_0S.xe) (X := vec_Total_l1_1_0_1_0X) vec_Total_env (h := .no) (hok_of [] (by kernel_rfl) trivial) (shp_ok (by kernel_rfl)) vec_Total_l1_1_0_1_0X_ok vec_Total_l1_1_0_1_0g (fun s => by kernel_rfl)
def vec_Total (v : List Int) : Option (Int) :=
  (loopC vec_Total_l1_1_0_1_0g (0, v, 0)).bind fun o =>
  some o
def vec_Total_ent : Ent := entD 29 [c0] (.one (.int .u64)) fun x => vec_Total x
theorem vec_Total_entok : EntOK Tryd.prog vec_Total_ent :=
  fn_ok vec_Total_env (h := (.two .no (.two .no (.two (.two .no (.over (loopD vec_Total_l1_1_0_1_0S.xe vec_Total_l1_1_0_1_0X (loopC vec_Total_l1_1_0_1_0g)))) .no)))) Tryd.func29 (hok_of [.den (.loop (subC (bodyC Tryd.f29) [1, 1, 0, 1, 0, 0])) (loopD vec_Total_l1_1_0_1_0S.xe vec_Total_l1_1_0_1_0X (loopC vec_Total_l1_1_0_1_0g))] (by kernel_rfl) ⟨vec_Total_l1_1_0_1_0_ok, trivial⟩) (by kernel_rfl) (fun x => by kernel_rfl)

/- wardshiplaw06.VecTotals -/
def law06_VecTotals_E : List Ent := [law06_lives_ent, vec_Next_ent, vec_Get_ent, vec_Total_ent, vec_Has_ent, vec_Order_ent, vec_With_ent]
theorem law06_VecTotals_env : EnvOK Tryd.prog law06_VecTotals_E := env_cons law06_lives_entok (env_cons vec_Next_entok (env_cons vec_Get_entok (env_cons vec_Total_entok (env_cons vec_Has_entok (env_cons vec_Order_entok (env_cons vec_With_entok (env_nil _)))))))
def law06_VecTotals_l1_1_1_1_0_1_0X_0 : Shp := { n := 106, ds := [(6, (.int .i64)), (7, (.int .u64))], cs := [(2, (.ptr 0 (.one (.arr 8 .leaf)) [])), (3, (.ptr 1 (.one (.st (.cons .leaf (.one .leaf)))) [])), (5, (.ptr 2 (.one (.arr 8 .leaf)) []))], hk := [.var 24 c0, .var 31 c1, .var 24 c0] }
def law06_VecTotals_l1_1_1_1_0_1_0X : XS := .one (.exit 0) law06_VecTotals_l1_1_1_1_0_1_0X_0.xe
theorem law06_VecTotals_l1_1_1_1_0_1_0X_ok : law06_VecTotals_l1_1_1_1_0_1_0X.OK 0 := XS.one_ok (shp_ok (S := law06_VecTotals_l1_1_1_1_0_1_0X_0) (by kernel_rfl))
def law06_VecTotals_l1_1_1_1_0_1_0S : Shp := { n := 106, ds := [(6, (.int .i64)), (7, (.int .u64)), (19, (.int .i64))], cs := [(2, (.ptr 0 (.one (.arr 8 .leaf)) [])), (3, (.ptr 1 (.one (.st (.cons .leaf (.one .leaf)))) [])), (5, (.ptr 2 (.one (.arr 8 .leaf)) []))], hk := [.var 24 c0, .var 31 c1, .var 24 c0] }
def law06_VecTotals_l1_1_1_1_0_1_0r (e : Int) (all : Int) (t19 : Int) (v : List Int) (id : Int × Int) (n : List Int) : Option ((Int × Int × Int × (List Int) × (Int × Int) × (List Int)) ⊕ ((Int × Int × (List Int) × (Int × Int) × (List Int)))) :=
  bif ltI t19 8 then
  (vec_Get v (W64 (t19 + 1))).bind fun r =>
  some (.inl ((e, WU64 (all + (WU64 (r))), W64 (t19 + 1), v, id, n)))
  else
  some (.inr (e, all, v, id, n))
def law06_VecTotals_l1_1_1_1_0_1_0g (s : Int × Int × Int × (List Int) × (Int × Int) × (List Int)) : Option ((Int × Int × Int × (List Int) × (Int × Int) × (List Int)) ⊕ ((Int × Int × (List Int) × (Int × Int) × (List Int)))) := law06_VecTotals_l1_1_1_1_0_1_0r s.1 s.2.1 s.2.2.1 s.2.2.2.1 s.2.2.2.2.1 s.2.2.2.2.2
theorem law06_VecTotals_l1_1_1_1_0_1_0_ok : SoundD Tryd.prog 0 (.loop (subC (bodyC Tryd.f8) [1, 1, 1, 1, 0, 1, 0, 0])) (loopD law06_VecTotals_l1_1_1_1_0_1_0S.xe law06_VecTotals_l1_1_1_1_0_1_0X (loopC law06_VecTotals_l1_1_1_1_0_1_0g)) :=
  loop_sound (S := law06_VecTotals_l1_1_1_1_0_1_0S.xe) (X := law06_VecTotals_l1_1_1_1_0_1_0X) law06_VecTotals_env (h := .no) (hok_of [] (by kernel_rfl) trivial) (shp_ok (by kernel_rfl)) law06_VecTotals_l1_1_1_1_0_1_0X_ok law06_VecTotals_l1_1_1_1_0_1_0g (fun s => by kernel_rfl)
def law06_VecTotals (v : List Int) (id : Int × Int) : Option (Bool) :=
  (law06_lives).bind fun r =>
  bif !r then
  some false
  else
  (vec_Next v id.1).bind fun r2 =>
  (loopC law06_VecTotals_l1_1_1_1_0_1_0g (r2.2, 0, 0, v, id, r2.1)).bind fun o =>
  (vec_Total o.2.2.1).bind fun r3 =>
  bif neI r3 o.2.1 then
  some false
  else
  bif neI o.1 0 then
  bif eqU c0 o.2.2.2.2 (List.replicate 8 0) then
  bif ltI o.2.2.2.1.1 1 then
  some true
  else
  bif ltI 8 o.2.2.2.1.1 then
  some true
  else
  (vec_Get o.2.2.1 o.2.2.2.1.1).bind fun r4 =>
  some (leI 1048576 r4)
  else
  some false
  else
  (vec_Get o.2.2.2.2 o.2.2.2.1.1).bind fun r5 =>
  (vec_Total o.2.2.2.2).bind fun r6 =>
  bif eqI r6 (WU64 (o.2.1 + 1)) then
  (vec_Has o.2.2.1 (o.2.2.2.1.1, r5)).bind fun r7 =>
  bif !r7 then
  (vec_Has o.2.2.2.2 (o.2.2.2.1.1, r5)).bind fun r8 =>
  bif r8 then
  bif eqU c1 o.2.2.2.1 (o.2.2.2.1.1, r5) then
  (vec_Order o.2.2.1 o.2.2.2.2).bind fun r9 =>
  bif eqI r9 (-1) then
  (vec_With o.2.2.1 (o.2.2.2.1.1, r5)).bind fun r10 =>
  some (eqU c0 r10 o.2.2.2.2)
  else
  some false
  else
  (vec_Has o.2.2.1 o.2.2.2.1).bind fun r11 =>
  (vec_Has o.2.2.2.2 o.2.2.2.1).bind fun r12 =>
  bif r11 == r12 then
  (vec_Order o.2.2.1 o.2.2.2.2).bind fun r13 =>
  bif eqI r13 (-1) then
  (vec_With o.2.2.1 (o.2.2.2.1.1, r5)).bind fun r14 =>
  some (eqU c0 r14 o.2.2.2.2)
  else
  some false
  else
  some false
  else
  some false
  else
  some false
  else
  some false
def law06_VecTotals_ent : Ent := entD 8 [c0, c1] (.one .bool) fun x => law06_VecTotals x.1 x.2
theorem law06_VecTotals_entok : EntOK Tryd.prog law06_VecTotals_ent :=
  fn_ok law06_VecTotals_env (h := (.two .no (.two .no (.two .no (.two .no (.two (.two .no (.over (loopD law06_VecTotals_l1_1_1_1_0_1_0S.xe law06_VecTotals_l1_1_1_1_0_1_0X (loopC law06_VecTotals_l1_1_1_1_0_1_0g)))) .no)))))) Tryd.func8 (hok_of [.den (.loop (subC (bodyC Tryd.f8) [1, 1, 1, 1, 0, 1, 0, 0])) (loopD law06_VecTotals_l1_1_1_1_0_1_0S.xe law06_VecTotals_l1_1_1_1_0_1_0X (loopC law06_VecTotals_l1_1_1_1_0_1_0g))] (by kernel_rfl) ⟨law06_VecTotals_l1_1_1_1_0_1_0_ok, trivial⟩) (by kernel_rfl) (fun x => by kernel_rfl)

end Go.Proofs.YtfjikgkcleefiaaDoor
