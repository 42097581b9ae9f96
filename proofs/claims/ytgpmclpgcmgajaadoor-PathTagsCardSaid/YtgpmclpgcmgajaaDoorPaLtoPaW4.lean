import Derived.Test.YtgpmclpgcmgajaaDoorProg
import Derived.Shelf.Pu.ErrVarParseUint
import Derived.Shelf.Strconv.Itoa4
import Derived.Shelf.Strings.Runes
import Derived.Shelf.Strings.Search1
import Derived.Shelf.Strings.OnBuilder
import Derived.Shelf.Strings.Split
import Derived.Lib.Walk
import Derived.Lib.ItoaMem
import Derived.WalkKit
import Derived.BigCall
import Derived.BigGuard
import Derived.Test.YtgpmclpgcmgajaaDoorAb0to4
import Derived.Lib.ConvBytes
import Derived.Laws.RangeString
import Derived.Laws.Runes
import Derived.Laws.RangeAny
import Derived.LoopTactic
import Derived.Shelf.RegionOpenPlain
import Derived.Scope
import Derived.Deep.RegionWith
namespace Go.Proofs.YtgpmclpgcmgajaaDoor
open Go.Shelf Go.Proofs
def zon : Go.Shelf.Ren := ⟨fun | 14 => 37 | 16 => 48 | 17 => 49 | 19 => 66 | 20 => 67 | 21 => 68 | 22 => 69 | 23 => 70 | 24 => 71 | 25 => 82 | 26 => 83 | 27 => 30 | 28 => 41 | 29 => 52 | 30 => 53 | 31 => 54 | 32 => 55 | 33 => 56 | 34 => 74 | 35 => 75 | 36 => 76 | 37 => 77 | 38 => 78 | 39 => 84 | 40 => 85 | n => n,
 fun | 0 => 0 | 2 => 2 | 3 => 3 | 4 => 4 | 5 => 5 | 9 => 9 | 20 => 20 | 21 => 21 | 22 => 48 | 24 => 53 | 25 => 54 | 34 => 81 | 36 => 80 | 37 => 57 | 39 => 83 | 44 => 98 | 47 => 68 | 48 => 105 | 50 => 107 | 52 => 70 | 55 => 73 | 59 => 90 | 60 => 36 | 61 => 91 | 65 => 108 | 66 => 109 | 67 => 63 | n => n,
 fun | 0 => 2 | 1 => 3 | 2 => 1 | 3 => 6 | 4 => 7 | n => n⟩
theorem zi9 : LaysPu.n14 Tryd.prog zon where
 mixed := by kernel_rfl
 f14 := Tryd.func37.trans (congrArg some (by kernel_rfl))
 f16 := Tryd.func48.trans (congrArg some (by kernel_rfl))
 f17 := Tryd.func49.trans (congrArg some (by kernel_rfl))
 f19 := Tryd.func66.trans (congrArg some (by kernel_rfl))
 f20 := Tryd.func67.trans (congrArg some (by kernel_rfl))
 f21 := Tryd.func68.trans (congrArg some (by kernel_rfl))
 f22 := Tryd.func69.trans (congrArg some (by kernel_rfl))
 f23 := Tryd.func70.trans (congrArg some (by kernel_rfl))
 f24 := Tryd.func71.trans (congrArg some (by kernel_rfl))
 f25 := Tryd.func82.trans (congrArg some (by kernel_rfl))
 f26 := Tryd.func83.trans (congrArg some (by kernel_rfl))
 f27 := Tryd.func30.trans (congrArg some (by kernel_rfl))
 f28 := Tryd.func41.trans (congrArg some (by kernel_rfl))
 f29 := Tryd.func52.trans (congrArg some (by kernel_rfl))
 f30 := Tryd.func53.trans (congrArg some (by kernel_rfl))
 f31 := Tryd.func54.trans (congrArg some (by kernel_rfl))
 f32 := Tryd.func55.trans (congrArg some (by kernel_rfl))
 f33 := Tryd.func56.trans (congrArg some (by kernel_rfl))
 f34 := Tryd.func74.trans (congrArg some (by kernel_rfl))
 f35 := Tryd.func75.trans (congrArg some (by kernel_rfl))
 f36 := Tryd.func76.trans (congrArg some (by kernel_rfl))
 f37 := Tryd.func77.trans (congrArg some (by kernel_rfl))
 f38 := Tryd.func78.trans (congrArg some (by kernel_rfl))
 f39 := Tryd.func84.trans (congrArg some (by kernel_rfl))
 f40 := Tryd.func85.trans (congrArg some (by kernel_rfl))
 t0 := Tryd.underlying0
 a0 := Tryd.isAgg0
 z0 := Tryd.sizeOf0
 v0 := Tryd.zeroValue0
 i0 := by kernel_rfl
 t2 := Tryd.underlying2
 a2 := Tryd.isAgg2
 z2 := Tryd.sizeOf2
 v2 := Tryd.zeroValue2
 i2 := by kernel_rfl
 t3 := Tryd.underlying3
 a3 := Tryd.isAgg3
 z3 := Tryd.sizeOf3
 v3 := Tryd.zeroValue3
 i3 := by kernel_rfl
 t4 := Tryd.underlying4
 a4 := Tryd.isAgg4
 z4 := Tryd.sizeOf4
 v4 := Tryd.zeroValue4
 i4 := by kernel_rfl
 t5 := Tryd.underlying5
 a5 := Tryd.isAgg5
 z5 := Tryd.sizeOf5
 v5 := Tryd.zeroValue5
 i5 := by kernel_rfl
 t9 := Tryd.underlying9
 a9 := Tryd.isAgg9
 z9 := Tryd.sizeOf9
 v9 := Tryd.zeroValue9
 i9 := by kernel_rfl
 t20 := Tryd.underlying20
 a20 := Tryd.isAgg20
 z20 := Tryd.sizeOf20
 v20 := Tryd.zeroValue20
 i20 := by kernel_rfl
 t21 := Tryd.underlying21
 a21 := Tryd.isAgg21
 z21 := Tryd.sizeOf21
 v21 := Tryd.zeroValue21
 i21 := by kernel_rfl
 t22 := Tryd.underlying48
 a22 := Tryd.isAgg48
 z22 := Tryd.sizeOf48
 v22 := Tryd.zeroValue48
 i22 := by kernel_rfl
 t24 := Tryd.underlying53
 a24 := Tryd.isAgg53
 z24 := Tryd.sizeOf53
 v24 := Tryd.zeroValue53
 i24 := by kernel_rfl
 t25 := Tryd.underlying54
 a25 := Tryd.isAgg54
 z25 := Tryd.sizeOf54
 v25 := Tryd.zeroValue54
 i25 := by kernel_rfl
 t34 := Tryd.underlying81
 a34 := Tryd.isAgg81
 z34 := Tryd.sizeOf81
 v34 := Tryd.zeroValue81
 i34 := by kernel_rfl
 c34 := by kernel_rfl
 t36 := Tryd.underlying80
 a36 := Tryd.isAgg80
 z36 := Tryd.sizeOf80
 v36 := Tryd.zeroValue80
 i36 := by kernel_rfl
 t37 := Tryd.underlying57
 a37 := Tryd.isAgg57
 z37 := Tryd.sizeOf57
 v37 := Tryd.zeroValue57
 i37 := by kernel_rfl
 t39 := Tryd.underlying83
 a39 := Tryd.isAgg83
 z39 := Tryd.sizeOf83
 v39 := Tryd.zeroValue83
 i39 := by kernel_rfl
 t44 := Tryd.underlying98
 a44 := Tryd.isAgg98
 z44 := Tryd.sizeOf98
 v44 := Tryd.zeroValue98
 i44 := by kernel_rfl
 t47 := Tryd.underlying68
 a47 := Tryd.isAgg68
 z47 := Tryd.sizeOf68
 v47 := Tryd.zeroValue68
 i47 := by kernel_rfl
 t48 := Tryd.underlying105
 a48 := Tryd.isAgg105
 z48 := Tryd.sizeOf105
 v48 := Tryd.zeroValue105
 i48 := by kernel_rfl
 t50 := Tryd.underlying107
 a50 := Tryd.isAgg107
 z50 := Tryd.sizeOf107
 v50 := Tryd.zeroValue107
 i50 := by kernel_rfl
 t52 := Tryd.underlying70
 a52 := Tryd.isAgg70
 z52 := Tryd.sizeOf70
 v52 := Tryd.zeroValue70
 i52 := by kernel_rfl
 t55 := Tryd.underlying73
 a55 := Tryd.isAgg73
 z55 := Tryd.sizeOf73
 v55 := Tryd.zeroValue73
 i55 := by kernel_rfl
 t59 := Tryd.underlying90
 a59 := Tryd.isAgg90
 z59 := Tryd.sizeOf90
 v59 := Tryd.zeroValue90
 i59 := by kernel_rfl
 t60 := Tryd.underlying36
 a60 := Tryd.isAgg36
 z60 := Tryd.sizeOf36
 v60 := Tryd.zeroValue36
 i60 := by kernel_rfl
 t61 := Tryd.underlying91
 a61 := Tryd.isAgg91
 z61 := Tryd.sizeOf91
 t65 := Tryd.underlying108
 a65 := Tryd.isAgg108
 z65 := Tryd.sizeOf108
 v65 := Tryd.zeroValue108
 i65 := by kernel_rfl
 t66 := Tryd.underlying109
 a66 := Tryd.isAgg109
 z66 := Tryd.sizeOf109
 v66 := Tryd.zeroValue109
 i66 := by kernel_rfl
 t67 := Tryd.underlying63
 a67 := Tryd.isAgg63
 z67 := Tryd.sizeOf63
 v67 := Tryd.zeroValue63
 i67 := by kernel_rfl
 g0 := by kernel_rfl
 m0 := by kernel_rfl
 g1 := by kernel_rfl
 m1 := by kernel_rfl
 g2 := by kernel_rfl
 m2 := by kernel_rfl
 g3 := by kernel_rfl
 m3 := by kernel_rfl
 g4 := by kernel_rfl
 m4 := by kernel_rfl
def zms : Go.Shelf.Ren := ⟨fun | 129 => 75 | 171 => 30 | 243 => 41 | 246 => 52 | 283 => 53 | 284 => 54 | 285 => 55 | 286 => 56 | 317 => 74 | 318 => 76 | 319 => 77 | 320 => 78 | 337 => 84 | 338 => 85 | n => n,
 fun | 0 => 0 | 2 => 2 | 3 => 3 | 4 => 4 | 5 => 5 | 9 => 9 | 20 => 20 | 37 => 57 | 46 => 80 | 51 => 36 | 53 => 48 | 171 => 70 | 173 => 73 | 212 => 90 | 213 => 91 | 232 => 108 | 233 => 109 | n => n,
 fun | 17 => 1 | 18 => 6 | 19 => 7 | n => n⟩
theorem zv4 : LaysM.n171 Tryd.prog zms where
 mixed := by kernel_rfl
 f129 := Tryd.func75.trans (congrArg some (by kernel_rfl))
 f171 := Tryd.func30.trans (congrArg some (by kernel_rfl))
 f243 := Tryd.func41.trans (congrArg some (by kernel_rfl))
 f246 := Tryd.func52.trans (congrArg some (by kernel_rfl))
 f283 := Tryd.func53.trans (congrArg some (by kernel_rfl))
 f284 := Tryd.func54.trans (congrArg some (by kernel_rfl))
 f285 := Tryd.func55.trans (congrArg some (by kernel_rfl))
 f286 := Tryd.func56.trans (congrArg some (by kernel_rfl))
 f317 := Tryd.func74.trans (congrArg some (by kernel_rfl))
 f318 := Tryd.func76.trans (congrArg some (by kernel_rfl))
 f319 := Tryd.func77.trans (congrArg some (by kernel_rfl))
 f320 := Tryd.func78.trans (congrArg some (by kernel_rfl))
 f337 := Tryd.func84.trans (congrArg some (by kernel_rfl))
 f338 := Tryd.func85.trans (congrArg some (by kernel_rfl))
 t0 := Tryd.underlying0
 a0 := Tryd.isAgg0
 z0 := Tryd.sizeOf0
 v0 := Tryd.zeroValue0
 t2 := Tryd.underlying2
 a2 := Tryd.isAgg2
 z2 := Tryd.sizeOf2
 v2 := Tryd.zeroValue2
 t3 := Tryd.underlying3
 a3 := Tryd.isAgg3
 z3 := Tryd.sizeOf3
 v3 := Tryd.zeroValue3
 t4 := Tryd.underlying4
 a4 := Tryd.isAgg4
 z4 := Tryd.sizeOf4
 v4 := Tryd.zeroValue4
 t5 := Tryd.underlying5
 a5 := Tryd.isAgg5
 z5 := Tryd.sizeOf5
 v5 := Tryd.zeroValue5
 t9 := Tryd.underlying9
 a9 := Tryd.isAgg9
 z9 := Tryd.sizeOf9
 v9 := Tryd.zeroValue9
 t20 := Tryd.underlying20
 a20 := Tryd.isAgg20
 z20 := Tryd.sizeOf20
 v20 := Tryd.zeroValue20
 t37 := Tryd.underlying57
 a37 := Tryd.isAgg57
 z37 := Tryd.sizeOf57
 v37 := Tryd.zeroValue57
 t46 := Tryd.underlying80
 a46 := Tryd.isAgg80
 z46 := Tryd.sizeOf80
 v46 := Tryd.zeroValue80
 t51 := Tryd.underlying36
 a51 := Tryd.isAgg36
 z51 := Tryd.sizeOf36
 v51 := Tryd.zeroValue36
 t53 := Tryd.underlying48
 a53 := Tryd.isAgg48
 z53 := Tryd.sizeOf48
 v53 := Tryd.zeroValue48
 t171 := Tryd.underlying70
 a171 := Tryd.isAgg70
 z171 := Tryd.sizeOf70
 v171 := Tryd.zeroValue70
 t173 := Tryd.underlying73
 a173 := Tryd.isAgg73
 z173 := Tryd.sizeOf73
 v173 := Tryd.zeroValue73
 t212 := Tryd.underlying90
 a212 := Tryd.isAgg90
 z212 := Tryd.sizeOf90
 v212 := Tryd.zeroValue90
 t213 := Tryd.underlying91
 a213 := Tryd.isAgg91
 z213 := Tryd.sizeOf91
 t232 := Tryd.underlying108
 a232 := Tryd.isAgg108
 z232 := Tryd.sizeOf108
 v232 := Tryd.zeroValue108
 t233 := Tryd.underlying109
 a233 := Tryd.isAgg109
 z233 := Tryd.sizeOf109
 v233 := Tryd.zeroValue109
 g17 := by kernel_rfl
 g18 := by kernel_rfl
 g19 := by kernel_rfl
 i0 := by kernel_rfl
 i2 := by kernel_rfl
 i3 := by kernel_rfl
 i4 := by kernel_rfl
 i5 := by kernel_rfl
 i9 := by kernel_rfl
 i20 := by kernel_rfl
 i37 := by kernel_rfl
 i46 := by kernel_rfl
 i51 := by kernel_rfl
 i53 := by kernel_rfl
 i171 := by kernel_rfl
 i173 := by kernel_rfl
 i212 := by kernel_rfl
 i232 := by kernel_rfl
 i233 := by kernel_rfl
 m17 := by kernel_rfl
 m18 := by kernel_rfl
 m19 := by kernel_rfl
def zo2 : Go.Shelf.Ren := ⟨fun | 129 => 75 | 284 => 54 | 317 => 74 | 318 => 76 | n => n,
 fun | 0 => 0 | 3 => 3 | 4 => 4 | 5 => 5 | 9 => 9 | 46 => 80 | 53 => 48 | 212 => 90 | n => n,
 fun | 17 => 1 | n => n⟩
theorem zv3 : LaysM.n284 Tryd.prog zo2 where
 mixed := by kernel_rfl
 f129 := Tryd.func75.trans (congrArg some (by kernel_rfl))
 f284 := Tryd.func54.trans (congrArg some (by kernel_rfl))
 f317 := Tryd.func74.trans (congrArg some (by kernel_rfl))
 f318 := Tryd.func76.trans (congrArg some (by kernel_rfl))
 t0 := Tryd.underlying0
 a0 := Tryd.isAgg0
 z0 := Tryd.sizeOf0
 v0 := Tryd.zeroValue0
 t3 := Tryd.underlying3
 a3 := Tryd.isAgg3
 z3 := Tryd.sizeOf3
 v3 := Tryd.zeroValue3
 t4 := Tryd.underlying4
 a4 := Tryd.isAgg4
 z4 := Tryd.sizeOf4
 v4 := Tryd.zeroValue4
 t5 := Tryd.underlying5
 a5 := Tryd.isAgg5
 z5 := Tryd.sizeOf5
 v5 := Tryd.zeroValue5
 t9 := Tryd.underlying9
 a9 := Tryd.isAgg9
 z9 := Tryd.sizeOf9
 v9 := Tryd.zeroValue9
 t46 := Tryd.underlying80
 a46 := Tryd.isAgg80
 z46 := Tryd.sizeOf80
 v46 := Tryd.zeroValue80
 t53 := Tryd.underlying48
 a53 := Tryd.isAgg48
 z53 := Tryd.sizeOf48
 v53 := Tryd.zeroValue48
 t212 := Tryd.underlying90
 a212 := Tryd.isAgg90
 z212 := Tryd.sizeOf90
 v212 := Tryd.zeroValue90
 g17 := by kernel_rfl
 i0 := by kernel_rfl
 i3 := by kernel_rfl
 i4 := by kernel_rfl
 i5 := by kernel_rfl
 i9 := by kernel_rfl
 i46 := by kernel_rfl
 i53 := by kernel_rfl
 i212 := by kernel_rfl
 m17 := by kernel_rfl
def zpp : Go.Shelf.Ren := ⟨fun | 283 => 53 | n => n,
 fun | 3 => 3 | 4 => 4 | 9 => 9 | n => n,
 fun  | n => n⟩
theorem zwg : Lays.n283 Tryd.prog zpp where
 mixed := by kernel_rfl
 f283 := Tryd.func53.trans (congrArg some (by kernel_rfl))
 t3 := Tryd.underlying3
 a3 := Tryd.isAgg3
 z3 := Tryd.sizeOf3
 v3 := Tryd.zeroValue3
 t4 := Tryd.underlying4
 a4 := Tryd.isAgg4
 z4 := Tryd.sizeOf4
 v4 := Tryd.zeroValue4
 t9 := Tryd.underlying9
 a9 := Tryd.isAgg9
 z9 := Tryd.sizeOf9
 v9 := Tryd.zeroValue9
def zp7 : Go.Shelf.Ren := ⟨fun | 285 => 55 | n => n,
 fun | 0 => 0 | 3 => 3 | 4 => 4 | 5 => 5 | 9 => 9 | 37 => 57 | 51 => 36 | 53 => 48 | n => n,
 fun  | n => n⟩
theorem zvz : Lays.n285 Tryd.prog zp7 where
 mixed := by kernel_rfl
 f285 := Tryd.func55.trans (congrArg some (by kernel_rfl))
 t0 := Tryd.underlying0
 a0 := Tryd.isAgg0
 z0 := Tryd.sizeOf0
 v0 := Tryd.zeroValue0
 t3 := Tryd.underlying3
 a3 := Tryd.isAgg3
 z3 := Tryd.sizeOf3
 v3 := Tryd.zeroValue3
 t4 := Tryd.underlying4
 a4 := Tryd.isAgg4
 z4 := Tryd.sizeOf4
 v4 := Tryd.zeroValue4
 t5 := Tryd.underlying5
 a5 := Tryd.isAgg5
 z5 := Tryd.sizeOf5
 v5 := Tryd.zeroValue5
 t9 := Tryd.underlying9
 a9 := Tryd.isAgg9
 z9 := Tryd.sizeOf9
 v9 := Tryd.zeroValue9
 t37 := Tryd.underlying57
 a37 := Tryd.isAgg57
 z37 := Tryd.sizeOf57
 v37 := Tryd.zeroValue57
 t51 := Tryd.underlying36
 a51 := Tryd.isAgg36
 z51 := Tryd.sizeOf36
 v51 := Tryd.zeroValue36
 t53 := Tryd.underlying48
 a53 := Tryd.isAgg48
 z53 := Tryd.sizeOf48
 v53 := Tryd.zeroValue48
def zpn : Go.Shelf.Ren := ⟨fun | 119 => 65 | 137 => 64 | 151 => 36 | 152 => 47 | 217 => 60 | 224 => 62 | 225 => 61 | 266 => 80 | n => n,
 fun | 0 => 0 | 3 => 3 | 4 => 4 | 5 => 5 | 9 => 9 | 21 => 21 | 46 => 80 | n => n,
 fun  | n => n⟩
theorem zgz : Lays.n151 Tryd.prog zpn where
 mixed := by kernel_rfl
 f119 := Tryd.func65.trans (congrArg some (by kernel_rfl))
 f137 := Tryd.func64.trans (congrArg some (by kernel_rfl))
 f151 := Tryd.func36.trans (congrArg some (by kernel_rfl))
 f152 := Tryd.func47.trans (congrArg some (by kernel_rfl))
 f217 := Tryd.func60.trans (congrArg some (by kernel_rfl))
 f224 := Tryd.func62.trans (congrArg some (by kernel_rfl))
 f225 := Tryd.func61.trans (congrArg some (by kernel_rfl))
 f266 := Tryd.func80.trans (congrArg some (by kernel_rfl))
 t0 := Tryd.underlying0
 a0 := Tryd.isAgg0
 z0 := Tryd.sizeOf0
 v0 := Tryd.zeroValue0
 t3 := Tryd.underlying3
 a3 := Tryd.isAgg3
 z3 := Tryd.sizeOf3
 v3 := Tryd.zeroValue3
 t4 := Tryd.underlying4
 a4 := Tryd.isAgg4
 z4 := Tryd.sizeOf4
 v4 := Tryd.zeroValue4
 t5 := Tryd.underlying5
 a5 := Tryd.isAgg5
 z5 := Tryd.sizeOf5
 v5 := Tryd.zeroValue5
 t9 := Tryd.underlying9
 a9 := Tryd.isAgg9
 z9 := Tryd.sizeOf9
 v9 := Tryd.zeroValue9
 t21 := Tryd.underlying21
 a21 := Tryd.isAgg21
 z21 := Tryd.sizeOf21
 v21 := Tryd.zeroValue21
 t46 := Tryd.underlying80
 a46 := Tryd.isAgg80
 z46 := Tryd.sizeOf80
 v46 := Tryd.zeroValue80
def zpf : Go.Shelf.Ren := ⟨fun | 137 => 64 | 217 => 60 | 266 => 80 | n => n,
 fun | 3 => 3 | 5 => 5 | 9 => 9 | n => n,
 fun  | n => n⟩
theorem zbo : Lays.n137 Tryd.prog zpf where
 mixed := by kernel_rfl
 f137 := Tryd.func64.trans (congrArg some (by kernel_rfl))
 f217 := Tryd.func60.trans (congrArg some (by kernel_rfl))
 f266 := Tryd.func80.trans (congrArg some (by kernel_rfl))
 t3 := Tryd.underlying3
 a3 := Tryd.isAgg3
 z3 := Tryd.sizeOf3
 v3 := Tryd.zeroValue3
 t5 := Tryd.underlying5
 a5 := Tryd.isAgg5
 z5 := Tryd.sizeOf5
 v5 := Tryd.zeroValue5
 t9 := Tryd.underlying9
 a9 := Tryd.isAgg9
 z9 := Tryd.sizeOf9
 v9 := Tryd.zeroValue9
def zi5 : Go.Shelf.Ren := ⟨fun | 156 => 28 | 165 => 38 | 166 => 39 | 169 => 40 | 240 => 50 | 241 => 51 | 276 => 72 | 277 => 73 | n => n,
 fun | 0 => 0 | 3 => 3 | 4 => 4 | 5 => 5 | 9 => 9 | 20 => 20 | 31 => 24 | 37 => 57 | 70 => 56 | 72 => 59 | 75 => 53 | 76 => 61 | 80 => 63 | 127 => 68 | 164 => 86 | n => n,
 fun  | n => n⟩
theorem zks : Lays.n156 Tryd.prog zi5 where
 mixed := by kernel_rfl
 f156 := Tryd.func28.trans (congrArg some (by kernel_rfl))
 f165 := Tryd.func38.trans (congrArg some (by kernel_rfl))
 f166 := Tryd.func39.trans (congrArg some (by kernel_rfl))
 f169 := Tryd.func40.trans (congrArg some (by kernel_rfl))
 f240 := Tryd.func50.trans (congrArg some (by kernel_rfl))
 f241 := Tryd.func51.trans (congrArg some (by kernel_rfl))
 f276 := Tryd.func72.trans (congrArg some (by kernel_rfl))
 f277 := Tryd.func73.trans (congrArg some (by kernel_rfl))
 t0 := Tryd.underlying0
 a0 := Tryd.isAgg0
 z0 := Tryd.sizeOf0
 v0 := Tryd.zeroValue0
 t3 := Tryd.underlying3
 a3 := Tryd.isAgg3
 z3 := Tryd.sizeOf3
 v3 := Tryd.zeroValue3
 t4 := Tryd.underlying4
 a4 := Tryd.isAgg4
 z4 := Tryd.sizeOf4
 v4 := Tryd.zeroValue4
 t9 := Tryd.underlying9
 a9 := Tryd.isAgg9
 z9 := Tryd.sizeOf9
 v9 := Tryd.zeroValue9
 t20 := Tryd.underlying20
 a20 := Tryd.isAgg20
 z20 := Tryd.sizeOf20
 v20 := Tryd.zeroValue20
 t31 := Tryd.underlying24
 a31 := Tryd.isAgg24
 z31 := Tryd.sizeOf24
 v31 := Tryd.zeroValue24
 t37 := Tryd.underlying57
 a37 := Tryd.isAgg57
 z37 := Tryd.sizeOf57
 v37 := Tryd.zeroValue57
 t70 := Tryd.underlying56
 a70 := Tryd.isAgg56
 z70 := Tryd.sizeOf56
 v70 := Tryd.zeroValue56
 t72 := Tryd.underlying59
 a72 := Tryd.isAgg59
 z72 := Tryd.sizeOf59
 v72 := Tryd.zeroValue59
 t75 := Tryd.underlying53
 a75 := Tryd.isAgg53
 z75 := Tryd.sizeOf53
 v75 := Tryd.zeroValue53
 t76 := Tryd.underlying61
 a76 := Tryd.isAgg61
 z76 := Tryd.sizeOf61
 v76 := Tryd.zeroValue61
 t127 := Tryd.underlying68
 a127 := Tryd.isAgg68
 z127 := Tryd.sizeOf68
 v127 := Tryd.zeroValue68
 t164 := Tryd.underlying86
 a164 := Tryd.isAgg86
 z164 := Tryd.sizeOf86
 v164 := Tryd.zeroValue86
def zpe : Go.Shelf.Ren := ⟨fun | 138 => 44 | 143 => 45 | 195 => 57 | 197 => 58 | 217 => 60 | 218 => 59 | 219 => 46 | 221 => 33 | 224 => 62 | 225 => 61 | 260 => 79 | 266 => 80 | 267 => 63 | 268 => 43 | 314 => 81 | n => n,
 fun | 0 => 0 | 3 => 3 | 4 => 4 | 5 => 5 | 9 => 9 | 21 => 21 | 31 => 24 | 46 => 80 | 51 => 36 | 105 => 76 | 119 => 101 | 138 => 103 | 139 => 104 | 146 => 94 | n => n,
 fun | 1 => 0 | 3 => 4 | 4 => 5 | n => n⟩
theorem zwk : Lays.n221 Tryd.prog zpe where
 mixed := by kernel_rfl
 f138 := Tryd.func44.trans (congrArg some (by kernel_rfl))
 f143 := Tryd.func45.trans (congrArg some (by kernel_rfl))
 f195 := Tryd.func57.trans (congrArg some (by kernel_rfl))
 f197 := Tryd.func58.trans (congrArg some (by kernel_rfl))
 f217 := Tryd.func60.trans (congrArg some (by kernel_rfl))
 f218 := Tryd.func59.trans (congrArg some (by kernel_rfl))
 f219 := Tryd.func46.trans (congrArg some (by kernel_rfl))
 f221 := Tryd.func33.trans (congrArg some (by kernel_rfl))
 f224 := Tryd.func62.trans (congrArg some (by kernel_rfl))
 f225 := Tryd.func61.trans (congrArg some (by kernel_rfl))
 f260 := Tryd.func79.trans (congrArg some (by kernel_rfl))
 f266 := Tryd.func80.trans (congrArg some (by kernel_rfl))
 f267 := Tryd.func63.trans (congrArg some (by kernel_rfl))
 f268 := Tryd.func43.trans (congrArg some (by kernel_rfl))
 f314 := Tryd.func81.trans (congrArg some (by kernel_rfl))
 t0 := Tryd.underlying0
 a0 := Tryd.isAgg0
 z0 := Tryd.sizeOf0
 v0 := Tryd.zeroValue0
 t3 := Tryd.underlying3
 a3 := Tryd.isAgg3
 z3 := Tryd.sizeOf3
 v3 := Tryd.zeroValue3
 t4 := Tryd.underlying4
 a4 := Tryd.isAgg4
 z4 := Tryd.sizeOf4
 v4 := Tryd.zeroValue4
 t5 := Tryd.underlying5
 a5 := Tryd.isAgg5
 z5 := Tryd.sizeOf5
 v5 := Tryd.zeroValue5
 t9 := Tryd.underlying9
 a9 := Tryd.isAgg9
 z9 := Tryd.sizeOf9
 v9 := Tryd.zeroValue9
 t21 := Tryd.underlying21
 a21 := Tryd.isAgg21
 z21 := Tryd.sizeOf21
 v21 := Tryd.zeroValue21
 t31 := Tryd.underlying24
 a31 := Tryd.isAgg24
 z31 := Tryd.sizeOf24
 v31 := Tryd.zeroValue24
 t46 := Tryd.underlying80
 a46 := Tryd.isAgg80
 z46 := Tryd.sizeOf80
 v46 := Tryd.zeroValue80
 t51 := Tryd.underlying36
 a51 := Tryd.isAgg36
 z51 := Tryd.sizeOf36
 v51 := Tryd.zeroValue36
 t105 := Tryd.underlying76
 a105 := Tryd.isAgg76
 z105 := Tryd.sizeOf76
 v105 := Tryd.zeroValue76
 t119 := Tryd.underlying101
 a119 := Tryd.isAgg101
 z119 := Tryd.sizeOf101
 t138 := Tryd.underlying103
 a138 := Tryd.isAgg103
 z138 := Tryd.sizeOf103
 v138 := Tryd.zeroValue103
 t139 := Tryd.underlying104
 a139 := Tryd.isAgg104
 z139 := Tryd.sizeOf104
 v139 := Tryd.zeroValue104
 t146 := Tryd.underlying94
 a146 := Tryd.isAgg94
 z146 := Tryd.sizeOf94
 v146 := Tryd.zeroValue94
 g1 := by kernel_rfl
 g3 := by kernel_rfl
 g4 := by kernel_rfl
def zp9 : Go.Shelf.Ren := ⟨fun | 143 => 45 | 217 => 60 | 219 => 46 | 224 => 62 | 225 => 61 | 266 => 80 | 267 => 63 | 314 => 81 | n => n,
 fun | 3 => 3 | 4 => 4 | 5 => 5 | 9 => 9 | 46 => 80 | 51 => 36 | 146 => 94 | n => n,
 fun | 1 => 0 | n => n⟩
theorem zw9 : Lays.n143 Tryd.prog zp9 where
 mixed := by kernel_rfl
 f143 := Tryd.func45.trans (congrArg some (by kernel_rfl))
 f217 := Tryd.func60.trans (congrArg some (by kernel_rfl))
 f219 := Tryd.func46.trans (congrArg some (by kernel_rfl))
 f224 := Tryd.func62.trans (congrArg some (by kernel_rfl))
 f225 := Tryd.func61.trans (congrArg some (by kernel_rfl))
 f266 := Tryd.func80.trans (congrArg some (by kernel_rfl))
 f267 := Tryd.func63.trans (congrArg some (by kernel_rfl))
 f314 := Tryd.func81.trans (congrArg some (by kernel_rfl))
 t3 := Tryd.underlying3
 a3 := Tryd.isAgg3
 z3 := Tryd.sizeOf3
 v3 := Tryd.zeroValue3
 t4 := Tryd.underlying4
 a4 := Tryd.isAgg4
 z4 := Tryd.sizeOf4
 v4 := Tryd.zeroValue4
 t5 := Tryd.underlying5
 a5 := Tryd.isAgg5
 z5 := Tryd.sizeOf5
 v5 := Tryd.zeroValue5
 t9 := Tryd.underlying9
 a9 := Tryd.isAgg9
 z9 := Tryd.sizeOf9
 v9 := Tryd.zeroValue9
 t46 := Tryd.underlying80
 a46 := Tryd.isAgg80
 z46 := Tryd.sizeOf80
 v46 := Tryd.zeroValue80
 t51 := Tryd.underlying36
 a51 := Tryd.isAgg36
 z51 := Tryd.sizeOf36
 v51 := Tryd.zeroValue36
 t146 := Tryd.underlying94
 a146 := Tryd.isAgg94
 z146 := Tryd.sizeOf94
 v146 := Tryd.zeroValue94
 g1 := by kernel_rfl
def zp1 : Go.Shelf.Ren := ⟨fun | 138 => 44 | 143 => 45 | 195 => 57 | 217 => 60 | 218 => 59 | 219 => 46 | 224 => 62 | 225 => 61 | 266 => 80 | 267 => 63 | 314 => 81 | n => n,
 fun | 0 => 0 | 3 => 3 | 4 => 4 | 5 => 5 | 9 => 9 | 46 => 80 | 51 => 36 | 146 => 94 | n => n,
 fun | 1 => 0 | n => n⟩
theorem zwl : Lays.n138 Tryd.prog zp1 where
 mixed := by kernel_rfl
 f138 := Tryd.func44.trans (congrArg some (by kernel_rfl))
 f143 := Tryd.func45.trans (congrArg some (by kernel_rfl))
 f195 := Tryd.func57.trans (congrArg some (by kernel_rfl))
 f217 := Tryd.func60.trans (congrArg some (by kernel_rfl))
 f218 := Tryd.func59.trans (congrArg some (by kernel_rfl))
 f219 := Tryd.func46.trans (congrArg some (by kernel_rfl))
 f224 := Tryd.func62.trans (congrArg some (by kernel_rfl))
 f225 := Tryd.func61.trans (congrArg some (by kernel_rfl))
 f266 := Tryd.func80.trans (congrArg some (by kernel_rfl))
 f267 := Tryd.func63.trans (congrArg some (by kernel_rfl))
 f314 := Tryd.func81.trans (congrArg some (by kernel_rfl))
 t0 := Tryd.underlying0
 a0 := Tryd.isAgg0
 z0 := Tryd.sizeOf0
 v0 := Tryd.zeroValue0
 t3 := Tryd.underlying3
 a3 := Tryd.isAgg3
 z3 := Tryd.sizeOf3
 v3 := Tryd.zeroValue3
 t4 := Tryd.underlying4
 a4 := Tryd.isAgg4
 z4 := Tryd.sizeOf4
 v4 := Tryd.zeroValue4
 t5 := Tryd.underlying5
 a5 := Tryd.isAgg5
 z5 := Tryd.sizeOf5
 v5 := Tryd.zeroValue5
 t9 := Tryd.underlying9
 a9 := Tryd.isAgg9
 z9 := Tryd.sizeOf9
 v9 := Tryd.zeroValue9
 t46 := Tryd.underlying80
 a46 := Tryd.isAgg80
 z46 := Tryd.sizeOf80
 v46 := Tryd.zeroValue80
 t51 := Tryd.underlying36
 a51 := Tryd.isAgg36
 z51 := Tryd.sizeOf36
 v51 := Tryd.zeroValue36
 t146 := Tryd.underlying94
 a146 := Tryd.isAgg94
 z146 := Tryd.sizeOf94
 v146 := Tryd.zeroValue94
 g1 := by kernel_rfl
theorem bX : Builder.Extra Tryd.prog zi5 where
 sizeBuilder := by kernel_rfl
 liesBuilder := by kernel_rfl
 t5 := Tryd.underlying5
 a5 := Tryd.isAgg5
 z5 := Tryd.sizeOf5
 v5 := Tryd.zeroValue5
 infoByte := by kernel_rfl
 cellsByte := by kernel_rfl
 sizeByte := by kernel_rfl
 neB5 := by decide
end Go.Proofs.YtgpmclpgcmgajaaDoor
set_option linter.unusedVariables false
set_option linter.unusedSimpArgs false
namespace Go.Proofs.YtgpmclpgcmgajaaDoor
open Go.Shelf Go.Proofs Go.RowKit Go.Sort Go.Lib
theorem zow (w : World) (T : TypeId) (nd : Nat) (hs : nd ≤ 24) : Holds (fun (b : UInt8) => Value.int .u8 (b.toNat : Int)) (w.alloc (.cells zeros24 T)) w.heap.size 0 (Array.replicate nd (0 : UInt8)) := fun j hj => by
 have hj' : j < nd := by simpa using hj
 refine ⟨?_, World.frozen?_alloc_new _ _ _ _⟩
 rw [World.cell?_alloc_new, zeros24_at _ (by omega), getElem!_pos _ j hj]
 simp
theorem zuq (w : World) (o : Obj) (dk : Array UInt8) (k : Nat) : ∃ os, (putRow (fun (b : UInt8) => Value.int .u8 (b.toNat : Int)) (w.alloc o) w.heap.size 0 dk).drewN k = grow (w.drewN k) os := by
 rw [alloc_eq_grow]
 obtain ⟨os', _, e⟩ := putRow_grow_new (fun (b : UInt8) => Value.int .u8 (b.toNat : Int)) w #[o] w.heap.size 0 dk (Nat.le_refl _)
 exact ⟨os', by rw [e]; rfl⟩
theorem zj8 (w : World) (k : Nat) (os : Array Obj) : Below w.heap.size w (grow (w.drewN k) os) :=
 ⟨by simp [grow, World.drewN], by simp [grow, World.drewN], by simp [grow, World.drewN], by simp [grow, World.drewN], fun i hi => by simp [grow, World.drewN, Array.getElem?_append_left hi]⟩
set_option maxHeartbeats 6400000 in
set_option maxRecDepth 100000 in
theorem fuint (u : Nat) (hu64 : u < 18446744073709551616) (w : World) (htab : Lib.TabIs Tryd.prog w "internal/strconv.uint64pow10" .u64 Lib.pow10Tab) :
   Calls Tryd.prog 42 #[.int .u64 u, .int .i64 10] w fun e w' => e = .returned (.string ⟨(Lib.decDigits u).toArray⟩) ∧ Below w.heap.size w w' := by
 by_cases hs : u < 100
 · go_enter Tryd.func42, Tryd.ntmps42
   go_wp2_with (go_at_call 53; refine (Any.internal_strconv_small zwg u hs _).mono ?_; rintro e w' ⟨rfl, rfl⟩)
   go_ret
   exact ⟨rfl, Below.refl _ _⟩
 · have hu1 : 1 ≤ u := by omega
   have hnd20 : Lib.nDigits u ≤ 20 := by have := Lib.numDigits_eq u hu1 hu64; split at this <;> omega
   have hal : Tryd.prog.arrayLen 70 = 24 := by simp [Program.arrayLen, Tryd.underlying70]
   have hsl1 : ∀ W, (Instr.sliceAt 70 (.pointer (some ⟨w.heap.size, 0, none⟩)) none (some (.int .i64 (Lib.nDigits u : Int))) none).run Tryd.prog W = .ok (.slice (some ⟨w.heap.size, 0, none⟩) (Lib.nDigits u) 24) W := fun W => by
     rw [run_sliceAt_array_h W 70 ⟨w.heap.size, 0, none⟩ (by simp [Program.arrayLen, Program.elem, Tryd.underlying70]) .i64 (Lib.nDigits u : Int) (by omega) (by rw [hal]; omega)]
     go_simp
     try omega
   have hH0 := zow w 70 (Lib.nDigits u) (by omega)
   have hfmt := Any.internal_strconv_formatBase10 zvz w.heap.size 0 24 u (Array.replicate (Lib.nDigits u) 0) (w.alloc (.cells Lib.zeros24 70)) hH0 (by rw [Array.size_replicate]; exact Lib.lt_pow_nDigits u) hu64 (by rw [Array.size_replicate]; omega)
   rw [Array.size_replicate] at hfmt
   have HH0 := Lib.hid hH0
   clear hH0 hal
   go_enter Tryd.func42, Tryd.ntmps42
   go_wp2_with (first
     | (go_at_call 54; refine (Any.internal_strconv_numDigits zv3 u hu1 hu64 _ (Lib.tabIs_alloc htab _)).mono ?_; rintro e w' ⟨rfl, rfl⟩))
   go_at_call 55
   refine hfmt.mono ?_
   rintro e w' ⟨rfl, k, v', dk, rfl, hF⟩
   have hcv : (convert 57 9 (.slice (some ⟨w.heap.size, 0, none⟩) (Lib.nDigits u) 24)).run Tryd.prog ((putRow (fun (b : UInt8) => Value.int .u8 (b.toNat : Int)) (w.alloc (.cells Lib.zeros24 70)) w.heap.size 0 dk).drewN k) = .ok (.string ⟨(Lib.decDigits u).toArray⟩) ((putRow (fun (b : UInt8) => Value.int .u8 (b.toNat : Int)) (w.alloc (.cells Lib.zeros24 70)) w.heap.size 0 dk).drewN k) := by
     have h := run_convert_bytes_back (P := Tryd.prog) ((putRow (fun (b : UInt8) => Value.int .u8 (b.toNat : Int)) (w.alloc (.cells Lib.zeros24 70)) w.heap.size 0 dk).drewN k) 57 9 5 ⟨w.heap.size, 0, none⟩ 24 (Lib.decDigits u) Tryd.underlying57 Tryd.underlying5 Tryd.underlying9 (fun j hj => by
       rw [Lib.row_is_numeral hF j hj, Lib.add_plain, World.cell?_drewN]
       exact cell?_putRow (fun (b : UInt8) => Value.int .u8 (b.toNat : Int)) _ w.heap.size 0 _ dk HH0.out (by rw [hF.size, Array.size_replicate]) j (by rw [hF.size]; rw [Lib.decDigits_length] at hj; exact hj))
     rw [Lib.decDigits_length] at h
     exact h
   go_wp2
   go_ret
   obtain ⟨os, eo⟩ := zuq w (.cells Lib.zeros24 70) dk k
   refine ⟨rfl, ?_⟩
   have := zj8 w k os
   rw [← eo] at this
   exact this
end Go.Proofs.YtgpmclpgcmgajaaDoor
set_option linter.unusedVariables false
set_option linter.unusedSimpArgs false
namespace Go.Proofs.YtgpmclpgcmgajaaDoor
open Go.Shelf Go.Proofs Go.RowKit Go.Sort Go.Lib Go.Ab
def zbj (s : ByteArray) : Bool := match Lib.parseUintB 32 s.data.toList with
 | .ok u => Lib.decDigits u == s.data.toList
 | _ => false
theorem zqg {w w' : World} (h : Below w.heap.size w w') (hs : gb ≤ w.heap.size) (g : Glob w) : Glob w' := g.stay fun k hk => h.block k (Nat.lt_of_lt_of_le hk hs)
theorem zs2 (u : Nat) (hu64 : u < 18446744073709551616) (w : World) (htab : Lib.TabIs Tryd.prog w "internal/strconv.uint64pow10" .u64 Lib.pow10Tab) :
   Calls Tryd.prog 31 #[.int .u64 u, .int .i64 10] w fun e w' => e = .returned (.string ⟨(Lib.decDigits u).toArray⟩) ∧ Below w.heap.size w w' := by
 go_enter Tryd.func31, Tryd.ntmps31
 go_wp2_with (go_at_call 42; refine (fuint u hu64 _ htab).mono ?_; rintro e w' ⟨rfl, hb⟩)
 go_ret
 exact ⟨rfl, hb⟩
set_option maxHeartbeats 6400000 in
set_option maxRecDepth 100000 in
theorem zoc (s : ByteArray) (hlim : s.size ≤ 281474976710656) (w : World) (hs : gb ≤ w.heap.size) (g : Glob w) :
   Calls Tryd.prog 26 #[.string s] w fun e w' => e = .returned (.bool (zbj s)) ∧ Below w.heap.size w w' := by
 obtain ⟨htab, ⟨tp, p, hsy⟩, tp2, p2, hra⟩ := id g
 unfold zbj
 cases hp : Lib.parseUintB 32 s.data.toList
 · rename_i u
   have hu := Lib.parseUintB_le hp
   have key : ∀ w', Below w.heap.size w w' → Lib.TabIs Tryd.prog w' "internal/strconv.uint64pow10" .u64 Lib.pow10Tab := fun w' hb => (zqg hb hs g).1
   go_enter Tryd.func26, Tryd.ntmps26
   go_wp2_with (first
     | (go_at_call 37; refine (Any.strconv_ParseUint_10_at32_ok zi9 s (by omega) u hp _).mono ?_; rintro e w' ⟨rfl, hw⟩; have hb : Below w.heap.size w w' := hw.elim (fun h => h ▸ Below.refl _ _) (fun h => h ▸ Lib.bytesWorld_below _ _ _); clear hw)
     | (go_at_call 31; refine (zs2 u (by omega) _ (key _ hb)).mono ?_; rintro e w'' ⟨rfl, hb2⟩))
   go_ret
   exact ⟨by simp [ByteArray.toList_eq], hb.trans ⟨hb2.os, hb2.tape, hb2.output, hb2.size, fun k hk => hb2.block k (Nat.lt_of_lt_of_le hk hb.size)⟩⟩
 · go_enter Tryd.func26, Tryd.ntmps26
   go_wp2_with (go_at_call 37; refine (Any.strconv_ParseUint_10_at32_syntax_var zi9 s hlim hp tp p _ hsy).mono ?_; rintro e w' ⟨N, rfl, hN, hc, hb⟩)
   go_ret
   exact ⟨rfl, hb⟩
 · go_enter Tryd.func26, Tryd.ntmps26
   go_wp2_with (go_at_call 37; refine (Any.strconv_ParseUint_10_at32_range_var zi9 s hlim hp tp2 p2 _ hra).mono ?_; rintro e w' ⟨N, rfl, hN, hc, hb⟩)
   go_ret
   exact ⟨rfl, hb⟩
end Go.Proofs.YtgpmclpgcmgajaaDoor
set_option linter.unusedVariables false
set_option linter.unusedSimpArgs false
namespace Go.Proofs.YtgpmclpgcmgajaaDoor
open Go.Shelf Go.Proofs Go.RowKit Go.Sort Go.Lib Go.Ab
theorem zwt (r : Int) (h0 : 128 ≤ r) (h1 : r ≤ 1114111) :
   (∃ a b : UInt8, 128 ≤ b.toNat ∧ Utf8.encode r = ⟨#[a, b]⟩) ∨ (∃ a b c : UInt8, 128 ≤ c.toNat ∧ Utf8.encode r = ⟨#[a, b, c]⟩) ∨ ∃ a b c d : UInt8, 128 ≤ d.toNat ∧ Utf8.encode r = ⟨#[a, b, c, d]⟩ := by
 unfold Utf8.encode
 generalize hc : (if Utf8.valid r = true then r.toNat else Utf8.runeError) = c
 have hc1 : 128 ≤ c ∧ c ≤ 1114111 := by
   subst hc
   split
   · omega
   · decide
 have hb : ∀ n, n < 256 → 128 ≤ n → 128 ≤ (UInt8.ofNat n).toNat := fun n h1 h2 => by rw [UInt8.toNat_ofNat']; omega
 dsimp only
 rw [if_neg (by omega)]
 by_cases h2 : c < 0x800
 · rw [if_pos h2]; exact .inl ⟨_, _, hb _ (by omega) (by omega), rfl⟩
 · rw [if_neg h2]
   by_cases h3 : c < 0x10000
   · rw [if_pos h3]; exact .inr (.inl ⟨_, _, _, hb _ (by omega) (by omega), rfl⟩)
   · rw [if_neg h3]; exact .inr (.inr ⟨_, _, _, _, hb _ (by omega) (by omega), rfl⟩)
theorem zps (l : List UInt8) (c : UInt8) (h : ∀ b, b ∈ l → b.toNat < 128) (hc : 128 ≤ c.toNat) : Lib.indexByte l c = -1 := by
 induction l with
 | nil => rfl
 | cons b l ih =>
   have hb := h b (by simp)
   have hne : b ≠ c := fun e => by subst e; omega
   have := ih fun x hx => h x (by simp [hx])
   simp [Lib.indexByte, this, hne]
set_option maxHeartbeats 6400000 in
set_option maxRecDepth 100000 in
theorem zwb (r : Int) (h0 : 128 ≤ r) (h1 : r ≤ 1114111) (hr : r ≠ 65533) (a b : UInt8) (hb : 128 ≤ b.toNat) (he : Utf8.encode r = ⟨#[a, b]⟩) (w : World) :
   Calls Tryd.prog 47 #[.string ⟨#[46, 95, 45]⟩, .int .i32 r] w fun e w' => e = .returned (.int .i64 (-1)) ∧ Below w.heap.size w w' := by
 have hcv : ∀ W, (convert 21 9 (.int .i32 r)).run Tryd.prog W = .ok (.string ⟨#[a, b]⟩) W := fun W => by
   simp [convert, run_underlying Tryd.underlying21, run_underlying Tryd.underlying9, Conv.intToString, he]
 have mixed := zbo.mixed
 have e1 : ((95 : Int) == (b.toNat : Int)) = false := beq_eq_false_iff_ne.2 (by omega)
 have hix : Lib.indexByte (({ data := #[46, 95, 45] } : ByteArray).extract 2 3).data.toList ((({ data := #[a, b] } : ByteArray)[1]'(by show 1 < 2; decide)).toNat : Int).toNat.toUInt8 = -1 := zps _ _ (by decide) (by show 128 ≤ ((b.toNat : Int).toNat.toUInt8).toNat; simpa using hb)
 have e4 : (((({ data := #[46, 95, 45] } : ByteArray)[1]'(by show 1 < 3; decide)).toNat : Int) != ((({ data := #[a, b] } : ByteArray)[1]'(by show 1 < 2; decide)).toNat : Int)) = true := bne_iff_ne.2 (by show (95 : Int) ≠ (b.toNat : Int); omega)
 have e2 : ((45 : Int) == (b.toNat : Int)) = false := beq_eq_false_iff_ne.2 (by omega)
 have e3 : ¬ (95 : Int) = (b.toNat : Int) := by omega
 go_enter Tryd.func47, Tryd.ntmps47
 go_wp2
 all_goals try (go_ret; exact ⟨rfl, Below.refl _ _⟩)
 all_goals (apply wp_scope_straight; go_wp2)
 all_goals (
   go_loopw [9] (fun iv w' => iv = .int .i64 1 ∧ w' = w) (fun _ _ => 0)
   case atStart => exact ⟨rfl, rfl⟩
   case round =>
     obtain ⟨rfl, rfl⟩ := hrel
     go_wp2
     apply wp_scope_straight
     go_wp2
     go_region_o
     go_wp2
     all_goals first
       | (exfalso; exact absurd (e4.symm.trans (by assumption)) (by decide))
       | (go_region_with (go_at_call 64; refine (Any.strings_IndexByte zbo _ _ _).mono ?_; rintro e w' ⟨rfl, rfl⟩; rw [hix])
          go_wp2
          all_goals (
            (first | go_ret3 | go_end0 | (dsimp +zetaDelta only [Exit.noGoto, Exit.inBlock, Exit.then]; go_ret))
            exact ⟨rfl, ⟨rfl, rfl, rfl, Nat.le_refl _, fun _ _ => rfl⟩⟩)))
end Go.Proofs.YtgpmclpgcmgajaaDoor
set_option linter.unusedVariables false
set_option linter.unusedSimpArgs false
namespace Go.Proofs.YtgpmclpgcmgajaaDoor
open Go.Shelf Go.Proofs Go.RowKit Go.Sort Go.Lib Go.Ab
set_option maxHeartbeats 6400000 in
set_option maxRecDepth 100000 in
theorem zwc (r : Int) (h0 : 128 ≤ r) (h1 : r ≤ 1114111) (hr : r ≠ 65533) (z a b : UInt8) (hb : 128 ≤ b.toNat) (he : Utf8.encode r = ⟨#[z, a, b]⟩) (w : World) :
   Calls Tryd.prog 47 #[.string ⟨#[46, 95, 45]⟩, .int .i32 r] w fun e w' => e = .returned (.int .i64 (-1)) ∧ Below w.heap.size w w' := by
 have hcv : ∀ W, (convert 21 9 (.int .i32 r)).run Tryd.prog W = .ok (.string ⟨#[z, a, b]⟩) W := fun W => by
   simp [convert, run_underlying Tryd.underlying21, run_underlying Tryd.underlying9, Conv.intToString, he]
 have mixed := zbo.mixed
 have e1 : ((95 : Int) == (b.toNat : Int)) = false := beq_eq_false_iff_ne.2 (by omega)
 have hix : Lib.indexByte (ByteArray.empty).data.toList ((({ data := #[z, a, b] } : ByteArray)[2]'(by show 2 < 3; decide)).toNat : Int).toNat.toUInt8 = -1 := zps _ _ (by decide) (by show 128 ≤ ((b.toNat : Int).toNat.toUInt8).toNat; simpa using hb)
 have e4 : (((({ data := #[46, 95, 45] } : ByteArray)[2]'(by show 2 < 3; decide)).toNat : Int) != ((({ data := #[z, a, b] } : ByteArray)[2]'(by show 2 < 3; decide)).toNat : Int)) = true := bne_iff_ne.2 (by show (45 : Int) ≠ (b.toNat : Int); omega)
 have e2 : ((45 : Int) == (b.toNat : Int)) = false := beq_eq_false_iff_ne.2 (by omega)
 have e3 : ¬ (95 : Int) = (b.toNat : Int) := by omega
 go_enter Tryd.func47, Tryd.ntmps47
 go_wp2
 all_goals try (go_ret; exact ⟨rfl, Below.refl _ _⟩)
 all_goals (apply wp_scope_straight; go_wp2)
 all_goals (
   go_loopw [9] (fun iv w' => iv = .int .i64 2 ∧ w' = w) (fun _ _ => 0)
   case atStart => exact ⟨rfl, rfl⟩
   case round =>
     obtain ⟨rfl, rfl⟩ := hrel
     go_wp2
     apply wp_scope_straight
     go_wp2
     go_region_o
     go_wp2
     all_goals first
       | (exfalso; exact absurd (e4.symm.trans (by assumption)) (by decide))
       | (go_region_with (go_at_call 64; refine (Any.strings_IndexByte zbo _ _ _).mono ?_; rintro e w' ⟨rfl, rfl⟩; rw [hix])
          go_wp2
          all_goals (
            (first | go_ret3 | go_end0 | (dsimp +zetaDelta only [Exit.noGoto, Exit.inBlock, Exit.then]; go_ret))
            exact ⟨rfl, ⟨rfl, rfl, rfl, Nat.le_refl _, fun _ _ => rfl⟩⟩)))
set_option maxHeartbeats 6400000 in
set_option maxRecDepth 100000 in
theorem zw0 (r : Int) (h0 : 128 ≤ r) (h1 : r ≤ 1114111) (hr : r ≠ 65533) (y z a b : UInt8) (hb : 128 ≤ b.toNat) (he : Utf8.encode r = ⟨#[y, z, a, b]⟩) (w : World) :
   Calls Tryd.prog 47 #[.string ⟨#[46, 95, 45]⟩, .int .i32 r] w fun e w' => e = .returned (.int .i64 (-1)) ∧ Below w.heap.size w w' := by
 have hcv : ∀ W, (convert 21 9 (.int .i32 r)).run Tryd.prog W = .ok (.string ⟨#[y, z, a, b]⟩) W := fun W => by
   simp [convert, run_underlying Tryd.underlying21, run_underlying Tryd.underlying9, Conv.intToString, he]
 have mixed := zbo.mixed
 go_enter Tryd.func47, Tryd.ntmps47
 go_wp2
 all_goals try (go_ret; exact ⟨rfl, Below.refl _ _⟩)
 all_goals (apply wp_scope_straight; go_wp2)
 all_goals (
   go_loopw [9] (fun iv w' => iv = .int .i64 3 ∧ w' = w) (fun _ _ => 0)
   case atStart => exact ⟨rfl, rfl⟩
   case round =>
     obtain ⟨rfl, rfl⟩ := hrel
     go_wp2
     all_goals (
            (first | go_ret3 | go_end0 | (dsimp +zetaDelta only [Exit.noGoto, Exit.inBlock, Exit.then]; go_ret))
            exact ⟨rfl, ⟨rfl, rfl, rfl, Nat.le_refl _, fun _ _ => rfl⟩⟩))
end Go.Proofs.YtgpmclpgcmgajaaDoor