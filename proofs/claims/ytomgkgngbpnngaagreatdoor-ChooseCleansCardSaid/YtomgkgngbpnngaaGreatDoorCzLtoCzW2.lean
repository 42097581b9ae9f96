import Derived.Test.YtomgkgngbpnngaaGreatDoorProg
import Derived.Shelf.Pu.ErrVarParseUint
import Derived.Shelf.Strconv.Itoa4
import Derived.Shelf.Strings.Runes
import Derived.Shelf.Strings.Search1
import Derived.Shelf.Strings.Split
import Derived.Shelf.Slices.CompactS
import Derived.Shelf.SortM.Plain
import Derived.Shelf.SortM.SortNone
import Derived.RangeFuncBox
import Derived.RangeFuncLeaves
import Derived.Shelf.Abstract
import Derived.WalkKit
import Derived.OwnWalkIn
import Derived.TacticsInMore
import Derived.LoopNIn
import Derived.LoopIn
import Derived.Maps.AppendAt
import Derived.Sort.OwnSorted
import Derived.Lib.Walk
import Derived.Lib.ItoaMem
import Derived.BigCall
import Derived.BigGuard
import Derived.Test.YtomgkgngbpnngaaGreatDoorAb0to4
import Derived.Lib.ConvBytes
namespace Go.Proofs.YtomgkgngbpnngaaGreatDoor
open Go.Shelf Go.Proofs
def z11h : Go.Shelf.Ren := ⟨fun | 14 => 64 | 16 => 77 | 17 => 78 | 19 => 88 | 20 => 89 | 21 => 90 | 22 => 91 | 23 => 92 | 24 => 93 | 25 => 100 | 26 => 101 | 27 => 102 | 28 => 107 | 29 => 110 | 30 => 94 | 31 => 95 | 32 => 96 | 33 => 97 | 34 => 103 | 35 => 57 | 36 => 104 | 37 => 105 | 38 => 106 | 39 => 108 | 40 => 109 | n => n,
 fun | 0 => 0 | 2 => 2 | 3 => 3 | 4 => 4 | 5 => 5 | 9 => 9 | 20 => 20 | 21 => 21 | 22 => 68 | 24 => 74 | 25 => 75 | 34 => 94 | 36 => 53 | 37 => 96 | 39 => 97 | 44 => 113 | 47 => 119 | 48 => 120 | 50 => 122 | 52 => 101 | 55 => 103 | 59 => 116 | 60 => 66 | 61 => 117 | 65 => 124 | 66 => 125 | 67 => 126 | n => n,
 fun | 0 => 3 | 1 => 4 | 2 => 5 | 3 => 6 | 4 => 7 | n => n⟩
theorem ztm : LaysPu.n14 Tryz.prog z11h where
 mixed := by kernel_rfl
 f14 := Tryz.func64.trans (congrArg some (by kernel_rfl))
 f16 := Tryz.func77.trans (congrArg some (by kernel_rfl))
 f17 := Tryz.func78.trans (congrArg some (by kernel_rfl))
 f19 := Tryz.func88.trans (congrArg some (by kernel_rfl))
 f20 := Tryz.func89.trans (congrArg some (by kernel_rfl))
 f21 := Tryz.func90.trans (congrArg some (by kernel_rfl))
 f22 := Tryz.func91.trans (congrArg some (by kernel_rfl))
 f23 := Tryz.func92.trans (congrArg some (by kernel_rfl))
 f24 := Tryz.func93.trans (congrArg some (by kernel_rfl))
 f25 := Tryz.func100.trans (congrArg some (by kernel_rfl))
 f26 := Tryz.func101.trans (congrArg some (by kernel_rfl))
 f27 := Tryz.func102.trans (congrArg some (by kernel_rfl))
 f28 := Tryz.func107.trans (congrArg some (by kernel_rfl))
 f29 := Tryz.func110.trans (congrArg some (by kernel_rfl))
 f30 := Tryz.func94.trans (congrArg some (by kernel_rfl))
 f31 := Tryz.func95.trans (congrArg some (by kernel_rfl))
 f32 := Tryz.func96.trans (congrArg some (by kernel_rfl))
 f33 := Tryz.func97.trans (congrArg some (by kernel_rfl))
 f34 := Tryz.func103.trans (congrArg some (by kernel_rfl))
 f35 := Tryz.func57.trans (congrArg some (by kernel_rfl))
 f36 := Tryz.func104.trans (congrArg some (by kernel_rfl))
 f37 := Tryz.func105.trans (congrArg some (by kernel_rfl))
 f38 := Tryz.func106.trans (congrArg some (by kernel_rfl))
 f39 := Tryz.func108.trans (congrArg some (by kernel_rfl))
 f40 := Tryz.func109.trans (congrArg some (by kernel_rfl))
 t0 := Tryz.underlying0
 a0 := Tryz.isAgg0
 z0 := Tryz.sizeOf0
 v0 := Tryz.zeroValue0
 i0 := by kernel_rfl
 t2 := Tryz.underlying2
 a2 := Tryz.isAgg2
 z2 := Tryz.sizeOf2
 v2 := Tryz.zeroValue2
 i2 := by kernel_rfl
 t3 := Tryz.underlying3
 a3 := Tryz.isAgg3
 z3 := Tryz.sizeOf3
 v3 := Tryz.zeroValue3
 i3 := by kernel_rfl
 t4 := Tryz.underlying4
 a4 := Tryz.isAgg4
 z4 := Tryz.sizeOf4
 v4 := Tryz.zeroValue4
 i4 := by kernel_rfl
 t5 := Tryz.underlying5
 a5 := Tryz.isAgg5
 z5 := Tryz.sizeOf5
 v5 := Tryz.zeroValue5
 i5 := by kernel_rfl
 t9 := Tryz.underlying9
 a9 := Tryz.isAgg9
 z9 := Tryz.sizeOf9
 v9 := Tryz.zeroValue9
 i9 := by kernel_rfl
 t20 := Tryz.underlying20
 a20 := Tryz.isAgg20
 z20 := Tryz.sizeOf20
 v20 := Tryz.zeroValue20
 i20 := by kernel_rfl
 t21 := Tryz.underlying21
 a21 := Tryz.isAgg21
 z21 := Tryz.sizeOf21
 v21 := Tryz.zeroValue21
 i21 := by kernel_rfl
 t22 := Tryz.underlying68
 a22 := Tryz.isAgg68
 z22 := Tryz.sizeOf68
 v22 := Tryz.zeroValue68
 i22 := by kernel_rfl
 t24 := Tryz.underlying74
 a24 := Tryz.isAgg74
 z24 := Tryz.sizeOf74
 v24 := Tryz.zeroValue74
 i24 := by kernel_rfl
 t25 := Tryz.underlying75
 a25 := Tryz.isAgg75
 z25 := Tryz.sizeOf75
 v25 := Tryz.zeroValue75
 i25 := by kernel_rfl
 t34 := Tryz.underlying94
 a34 := Tryz.isAgg94
 z34 := Tryz.sizeOf94
 v34 := Tryz.zeroValue94
 i34 := by kernel_rfl
 c34 := by kernel_rfl
 t36 := Tryz.underlying53
 a36 := Tryz.isAgg53
 z36 := Tryz.sizeOf53
 v36 := Tryz.zeroValue53
 i36 := by kernel_rfl
 t37 := Tryz.underlying96
 a37 := Tryz.isAgg96
 z37 := Tryz.sizeOf96
 v37 := Tryz.zeroValue96
 i37 := by kernel_rfl
 t39 := Tryz.underlying97
 a39 := Tryz.isAgg97
 z39 := Tryz.sizeOf97
 v39 := Tryz.zeroValue97
 i39 := by kernel_rfl
 t44 := Tryz.underlying113
 a44 := Tryz.isAgg113
 z44 := Tryz.sizeOf113
 v44 := Tryz.zeroValue113
 i44 := by kernel_rfl
 t47 := Tryz.underlying119
 a47 := Tryz.isAgg119
 z47 := Tryz.sizeOf119
 v47 := Tryz.zeroValue119
 i47 := by kernel_rfl
 t48 := Tryz.underlying120
 a48 := Tryz.isAgg120
 z48 := Tryz.sizeOf120
 v48 := Tryz.zeroValue120
 i48 := by kernel_rfl
 t50 := Tryz.underlying122
 a50 := Tryz.isAgg122
 z50 := Tryz.sizeOf122
 v50 := Tryz.zeroValue122
 i50 := by kernel_rfl
 t52 := Tryz.underlying101
 a52 := Tryz.isAgg101
 z52 := Tryz.sizeOf101
 v52 := Tryz.zeroValue101
 i52 := by kernel_rfl
 t55 := Tryz.underlying103
 a55 := Tryz.isAgg103
 z55 := Tryz.sizeOf103
 v55 := Tryz.zeroValue103
 i55 := by kernel_rfl
 t59 := Tryz.underlying116
 a59 := Tryz.isAgg116
 z59 := Tryz.sizeOf116
 v59 := Tryz.zeroValue116
 i59 := by kernel_rfl
 t60 := Tryz.underlying66
 a60 := Tryz.isAgg66
 z60 := Tryz.sizeOf66
 v60 := Tryz.zeroValue66
 i60 := by kernel_rfl
 t61 := Tryz.underlying117
 a61 := Tryz.isAgg117
 z61 := Tryz.sizeOf117
 t65 := Tryz.underlying124
 a65 := Tryz.isAgg124
 z65 := Tryz.sizeOf124
 v65 := Tryz.zeroValue124
 i65 := by kernel_rfl
 t66 := Tryz.underlying125
 a66 := Tryz.isAgg125
 z66 := Tryz.sizeOf125
 v66 := Tryz.zeroValue125
 i66 := by kernel_rfl
 t67 := Tryz.underlying126
 a67 := Tryz.isAgg126
 z67 := Tryz.sizeOf126
 v67 := Tryz.zeroValue126
 i67 := by kernel_rfl
 g0 := by kernel_rfl
 m0 := by kernel_rfl
 g1 := by kernel_rfl
 m1 := by kernel_rfl
 g2 := by kernel_rfl
 m2 := by kernel_rfl
 g3 := by kernel_rfl
 m3 := by kernel_rfl
 g4 := by kernel_rfl
 m4 := by kernel_rfl
def zyz : Go.Shelf.Ren := ⟨fun | 129 => 57 | 284 => 95 | 317 => 103 | 318 => 104 | n => n,
 fun | 0 => 0 | 3 => 3 | 4 => 4 | 5 => 5 | 9 => 9 | 46 => 53 | 53 => 68 | 212 => 116 | n => n,
 fun | 17 => 5 | n => n⟩
theorem z19f : LaysM.n284 Tryz.prog zyz where
 mixed := by kernel_rfl
 f129 := Tryz.func57.trans (congrArg some (by kernel_rfl))
 f284 := Tryz.func95.trans (congrArg some (by kernel_rfl))
 f317 := Tryz.func103.trans (congrArg some (by kernel_rfl))
 f318 := Tryz.func104.trans (congrArg some (by kernel_rfl))
 t0 := Tryz.underlying0
 a0 := Tryz.isAgg0
 z0 := Tryz.sizeOf0
 v0 := Tryz.zeroValue0
 t3 := Tryz.underlying3
 a3 := Tryz.isAgg3
 z3 := Tryz.sizeOf3
 v3 := Tryz.zeroValue3
 t4 := Tryz.underlying4
 a4 := Tryz.isAgg4
 z4 := Tryz.sizeOf4
 v4 := Tryz.zeroValue4
 t5 := Tryz.underlying5
 a5 := Tryz.isAgg5
 z5 := Tryz.sizeOf5
 v5 := Tryz.zeroValue5
 t9 := Tryz.underlying9
 a9 := Tryz.isAgg9
 z9 := Tryz.sizeOf9
 v9 := Tryz.zeroValue9
 t46 := Tryz.underlying53
 a46 := Tryz.isAgg53
 z46 := Tryz.sizeOf53
 v46 := Tryz.zeroValue53
 t53 := Tryz.underlying68
 a53 := Tryz.isAgg68
 z53 := Tryz.sizeOf68
 v53 := Tryz.zeroValue68
 t212 := Tryz.underlying116
 a212 := Tryz.isAgg116
 z212 := Tryz.sizeOf116
 v212 := Tryz.zeroValue116
 g17 := by kernel_rfl
 i0 := by kernel_rfl
 i3 := by kernel_rfl
 i4 := by kernel_rfl
 i5 := by kernel_rfl
 i9 := by kernel_rfl
 i46 := by kernel_rfl
 i53 := by kernel_rfl
 i212 := by kernel_rfl
 m17 := by kernel_rfl
def z12l : Go.Shelf.Ren := ⟨fun | 283 => 94 | n => n,
 fun | 3 => 3 | 4 => 4 | 9 => 9 | n => n,
 fun  | n => n⟩
theorem z1bg : Lays.n283 Tryz.prog z12l where
 mixed := by kernel_rfl
 f283 := Tryz.func94.trans (congrArg some (by kernel_rfl))
 t3 := Tryz.underlying3
 a3 := Tryz.isAgg3
 z3 := Tryz.sizeOf3
 v3 := Tryz.zeroValue3
 t4 := Tryz.underlying4
 a4 := Tryz.isAgg4
 z4 := Tryz.sizeOf4
 v4 := Tryz.zeroValue4
 t9 := Tryz.underlying9
 a9 := Tryz.isAgg9
 z9 := Tryz.sizeOf9
 v9 := Tryz.zeroValue9
def z11l : Go.Shelf.Ren := ⟨fun | 285 => 96 | n => n,
 fun | 0 => 0 | 3 => 3 | 4 => 4 | 5 => 5 | 9 => 9 | 37 => 96 | 51 => 66 | 53 => 68 | n => n,
 fun  | n => n⟩
theorem z1bc : Lays.n285 Tryz.prog z11l where
 mixed := by kernel_rfl
 f285 := Tryz.func96.trans (congrArg some (by kernel_rfl))
 t0 := Tryz.underlying0
 a0 := Tryz.isAgg0
 z0 := Tryz.sizeOf0
 v0 := Tryz.zeroValue0
 t3 := Tryz.underlying3
 a3 := Tryz.isAgg3
 z3 := Tryz.sizeOf3
 v3 := Tryz.zeroValue3
 t4 := Tryz.underlying4
 a4 := Tryz.isAgg4
 z4 := Tryz.sizeOf4
 v4 := Tryz.zeroValue4
 t5 := Tryz.underlying5
 a5 := Tryz.isAgg5
 z5 := Tryz.sizeOf5
 v5 := Tryz.zeroValue5
 t9 := Tryz.underlying9
 a9 := Tryz.isAgg9
 z9 := Tryz.sizeOf9
 v9 := Tryz.zeroValue9
 t37 := Tryz.underlying96
 a37 := Tryz.isAgg96
 z37 := Tryz.sizeOf96
 v37 := Tryz.zeroValue96
 t51 := Tryz.underlying66
 a51 := Tryz.isAgg66
 z51 := Tryz.sizeOf66
 v51 := Tryz.zeroValue66
 t53 := Tryz.underlying68
 a53 := Tryz.isAgg68
 z53 := Tryz.sizeOf68
 v53 := Tryz.zeroValue68
def z12e : Go.Shelf.Ren := ⟨fun | 119 => 87 | 137 => 86 | 151 => 63 | 152 => 76 | 217 => 82 | 224 => 84 | 225 => 83 | 266 => 98 | n => n,
 fun | 0 => 0 | 3 => 3 | 4 => 4 | 5 => 5 | 9 => 9 | 21 => 21 | 46 => 53 | n => n,
 fun  | n => n⟩
theorem zrg : Lays.n151 Tryz.prog z12e where
 mixed := by kernel_rfl
 f119 := Tryz.func87.trans (congrArg some (by kernel_rfl))
 f137 := Tryz.func86.trans (congrArg some (by kernel_rfl))
 f151 := Tryz.func63.trans (congrArg some (by kernel_rfl))
 f152 := Tryz.func76.trans (congrArg some (by kernel_rfl))
 f217 := Tryz.func82.trans (congrArg some (by kernel_rfl))
 f224 := Tryz.func84.trans (congrArg some (by kernel_rfl))
 f225 := Tryz.func83.trans (congrArg some (by kernel_rfl))
 f266 := Tryz.func98.trans (congrArg some (by kernel_rfl))
 t0 := Tryz.underlying0
 a0 := Tryz.isAgg0
 z0 := Tryz.sizeOf0
 v0 := Tryz.zeroValue0
 t3 := Tryz.underlying3
 a3 := Tryz.isAgg3
 z3 := Tryz.sizeOf3
 v3 := Tryz.zeroValue3
 t4 := Tryz.underlying4
 a4 := Tryz.isAgg4
 z4 := Tryz.sizeOf4
 v4 := Tryz.zeroValue4
 t5 := Tryz.underlying5
 a5 := Tryz.isAgg5
 z5 := Tryz.sizeOf5
 v5 := Tryz.zeroValue5
 t9 := Tryz.underlying9
 a9 := Tryz.isAgg9
 z9 := Tryz.sizeOf9
 v9 := Tryz.zeroValue9
 t21 := Tryz.underlying21
 a21 := Tryz.isAgg21
 z21 := Tryz.sizeOf21
 v21 := Tryz.zeroValue21
 t46 := Tryz.underlying53
 a46 := Tryz.isAgg53
 z46 := Tryz.sizeOf53
 v46 := Tryz.zeroValue53
def z11v : Go.Shelf.Ren := ⟨fun | 137 => 86 | 217 => 82 | 266 => 98 | n => n,
 fun | 3 => 3 | 5 => 5 | 9 => 9 | n => n,
 fun  | n => n⟩
theorem zj6 : Lays.n137 Tryz.prog z11v where
 mixed := by kernel_rfl
 f137 := Tryz.func86.trans (congrArg some (by kernel_rfl))
 f217 := Tryz.func82.trans (congrArg some (by kernel_rfl))
 f266 := Tryz.func98.trans (congrArg some (by kernel_rfl))
 t3 := Tryz.underlying3
 a3 := Tryz.isAgg3
 z3 := Tryz.sizeOf3
 v3 := Tryz.zeroValue3
 t5 := Tryz.underlying5
 a5 := Tryz.isAgg5
 z5 := Tryz.sizeOf5
 v5 := Tryz.zeroValue5
 t9 := Tryz.underlying9
 a9 := Tryz.isAgg9
 z9 := Tryz.sizeOf9
 v9 := Tryz.zeroValue9
def z12f : Go.Shelf.Ren := ⟨fun | 138 => 59 | 143 => 60 | 195 => 72 | 197 => 73 | 217 => 82 | 218 => 74 | 219 => 75 | 221 => 42 | 224 => 84 | 225 => 83 | 260 => 81 | 266 => 98 | 267 => 85 | 268 => 58 | 314 => 99 | n => n,
 fun | 0 => 0 | 3 => 3 | 4 => 4 | 5 => 5 | 9 => 9 | 21 => 21 | 31 => 22 | 46 => 53 | 51 => 66 | 105 => 85 | 119 => 105 | 138 => 107 | 139 => 108 | 146 => 109 | n => n,
 fun | 1 => 0 | 3 => 1 | 4 => 2 | n => n⟩
theorem z1br : Lays.n221 Tryz.prog z12f where
 mixed := by kernel_rfl
 f138 := Tryz.func59.trans (congrArg some (by kernel_rfl))
 f143 := Tryz.func60.trans (congrArg some (by kernel_rfl))
 f195 := Tryz.func72.trans (congrArg some (by kernel_rfl))
 f197 := Tryz.func73.trans (congrArg some (by kernel_rfl))
 f217 := Tryz.func82.trans (congrArg some (by kernel_rfl))
 f218 := Tryz.func74.trans (congrArg some (by kernel_rfl))
 f219 := Tryz.func75.trans (congrArg some (by kernel_rfl))
 f221 := Tryz.func42.trans (congrArg some (by kernel_rfl))
 f224 := Tryz.func84.trans (congrArg some (by kernel_rfl))
 f225 := Tryz.func83.trans (congrArg some (by kernel_rfl))
 f260 := Tryz.func81.trans (congrArg some (by kernel_rfl))
 f266 := Tryz.func98.trans (congrArg some (by kernel_rfl))
 f267 := Tryz.func85.trans (congrArg some (by kernel_rfl))
 f268 := Tryz.func58.trans (congrArg some (by kernel_rfl))
 f314 := Tryz.func99.trans (congrArg some (by kernel_rfl))
 t0 := Tryz.underlying0
 a0 := Tryz.isAgg0
 z0 := Tryz.sizeOf0
 v0 := Tryz.zeroValue0
 t3 := Tryz.underlying3
 a3 := Tryz.isAgg3
 z3 := Tryz.sizeOf3
 v3 := Tryz.zeroValue3
 t4 := Tryz.underlying4
 a4 := Tryz.isAgg4
 z4 := Tryz.sizeOf4
 v4 := Tryz.zeroValue4
 t5 := Tryz.underlying5
 a5 := Tryz.isAgg5
 z5 := Tryz.sizeOf5
 v5 := Tryz.zeroValue5
 t9 := Tryz.underlying9
 a9 := Tryz.isAgg9
 z9 := Tryz.sizeOf9
 v9 := Tryz.zeroValue9
 t21 := Tryz.underlying21
 a21 := Tryz.isAgg21
 z21 := Tryz.sizeOf21
 v21 := Tryz.zeroValue21
 t31 := Tryz.underlying22
 a31 := Tryz.isAgg22
 z31 := Tryz.sizeOf22
 v31 := Tryz.zeroValue22
 t46 := Tryz.underlying53
 a46 := Tryz.isAgg53
 z46 := Tryz.sizeOf53
 v46 := Tryz.zeroValue53
 t51 := Tryz.underlying66
 a51 := Tryz.isAgg66
 z51 := Tryz.sizeOf66
 v51 := Tryz.zeroValue66
 t105 := Tryz.underlying85
 a105 := Tryz.isAgg85
 z105 := Tryz.sizeOf85
 v105 := Tryz.zeroValue85
 t119 := Tryz.underlying105
 a119 := Tryz.isAgg105
 z119 := Tryz.sizeOf105
 t138 := Tryz.underlying107
 a138 := Tryz.isAgg107
 z138 := Tryz.sizeOf107
 v138 := Tryz.zeroValue107
 t139 := Tryz.underlying108
 a139 := Tryz.isAgg108
 z139 := Tryz.sizeOf108
 v139 := Tryz.zeroValue108
 t146 := Tryz.underlying109
 a146 := Tryz.isAgg109
 z146 := Tryz.sizeOf109
 v146 := Tryz.zeroValue109
 g1 := by kernel_rfl
 g3 := by kernel_rfl
 g4 := by kernel_rfl
def z12d : Go.Shelf.Ren := ⟨fun | 143 => 60 | 217 => 82 | 219 => 75 | 224 => 84 | 225 => 83 | 266 => 98 | 267 => 85 | 314 => 99 | n => n,
 fun | 3 => 3 | 4 => 4 | 5 => 5 | 9 => 9 | 46 => 53 | 51 => 66 | 146 => 109 | n => n,
 fun | 1 => 0 | n => n⟩
theorem z1ca : Lays.n143 Tryz.prog z12d where
 mixed := by kernel_rfl
 f143 := Tryz.func60.trans (congrArg some (by kernel_rfl))
 f217 := Tryz.func82.trans (congrArg some (by kernel_rfl))
 f219 := Tryz.func75.trans (congrArg some (by kernel_rfl))
 f224 := Tryz.func84.trans (congrArg some (by kernel_rfl))
 f225 := Tryz.func83.trans (congrArg some (by kernel_rfl))
 f266 := Tryz.func98.trans (congrArg some (by kernel_rfl))
 f267 := Tryz.func85.trans (congrArg some (by kernel_rfl))
 f314 := Tryz.func99.trans (congrArg some (by kernel_rfl))
 t3 := Tryz.underlying3
 a3 := Tryz.isAgg3
 z3 := Tryz.sizeOf3
 v3 := Tryz.zeroValue3
 t4 := Tryz.underlying4
 a4 := Tryz.isAgg4
 z4 := Tryz.sizeOf4
 v4 := Tryz.zeroValue4
 t5 := Tryz.underlying5
 a5 := Tryz.isAgg5
 z5 := Tryz.sizeOf5
 v5 := Tryz.zeroValue5
 t9 := Tryz.underlying9
 a9 := Tryz.isAgg9
 z9 := Tryz.sizeOf9
 v9 := Tryz.zeroValue9
 t46 := Tryz.underlying53
 a46 := Tryz.isAgg53
 z46 := Tryz.sizeOf53
 v46 := Tryz.zeroValue53
 t51 := Tryz.underlying66
 a51 := Tryz.isAgg66
 z51 := Tryz.sizeOf66
 v51 := Tryz.zeroValue66
 t146 := Tryz.underlying109
 a146 := Tryz.isAgg109
 z146 := Tryz.sizeOf109
 v146 := Tryz.zeroValue109
 g1 := by kernel_rfl
def z12m : Go.Shelf.Ren := ⟨fun | 138 => 59 | 143 => 60 | 195 => 72 | 217 => 82 | 218 => 74 | 219 => 75 | 224 => 84 | 225 => 83 | 266 => 98 | 267 => 85 | 314 => 99 | n => n,
 fun | 0 => 0 | 3 => 3 | 4 => 4 | 5 => 5 | 9 => 9 | 46 => 53 | 51 => 66 | 146 => 109 | n => n,
 fun | 1 => 0 | n => n⟩
theorem z1ba : Lays.n138 Tryz.prog z12m where
 mixed := by kernel_rfl
 f138 := Tryz.func59.trans (congrArg some (by kernel_rfl))
 f143 := Tryz.func60.trans (congrArg some (by kernel_rfl))
 f195 := Tryz.func72.trans (congrArg some (by kernel_rfl))
 f217 := Tryz.func82.trans (congrArg some (by kernel_rfl))
 f218 := Tryz.func74.trans (congrArg some (by kernel_rfl))
 f219 := Tryz.func75.trans (congrArg some (by kernel_rfl))
 f224 := Tryz.func84.trans (congrArg some (by kernel_rfl))
 f225 := Tryz.func83.trans (congrArg some (by kernel_rfl))
 f266 := Tryz.func98.trans (congrArg some (by kernel_rfl))
 f267 := Tryz.func85.trans (congrArg some (by kernel_rfl))
 f314 := Tryz.func99.trans (congrArg some (by kernel_rfl))
 t0 := Tryz.underlying0
 a0 := Tryz.isAgg0
 z0 := Tryz.sizeOf0
 v0 := Tryz.zeroValue0
 t3 := Tryz.underlying3
 a3 := Tryz.isAgg3
 z3 := Tryz.sizeOf3
 v3 := Tryz.zeroValue3
 t4 := Tryz.underlying4
 a4 := Tryz.isAgg4
 z4 := Tryz.sizeOf4
 v4 := Tryz.zeroValue4
 t5 := Tryz.underlying5
 a5 := Tryz.isAgg5
 z5 := Tryz.sizeOf5
 v5 := Tryz.zeroValue5
 t9 := Tryz.underlying9
 a9 := Tryz.isAgg9
 z9 := Tryz.sizeOf9
 v9 := Tryz.zeroValue9
 t46 := Tryz.underlying53
 a46 := Tryz.isAgg53
 z46 := Tryz.sizeOf53
 v46 := Tryz.zeroValue53
 t51 := Tryz.underlying66
 a51 := Tryz.isAgg66
 z51 := Tryz.sizeOf66
 v51 := Tryz.zeroValue66
 t146 := Tryz.underlying109
 a146 := Tryz.isAgg109
 z146 := Tryz.sizeOf109
 v146 := Tryz.zeroValue109
 g1 := by kernel_rfl
def z12b : Go.Shelf.Ren := ⟨fun | 194 => 18 | n => n,
 fun | 0 => 0 | 3 => 3 | 4 => 4 | 9 => 9 | 31 => 22 | n => n,
 fun  | n => n⟩
theorem z13c : Lays.n194 Tryz.prog z12b where
 mixed := by kernel_rfl
 f194 := Tryz.func18.trans (congrArg some (by kernel_rfl))
 t0 := Tryz.underlying0
 a0 := Tryz.isAgg0
 z0 := Tryz.sizeOf0
 v0 := Tryz.zeroValue0
 t3 := Tryz.underlying3
 a3 := Tryz.isAgg3
 z3 := Tryz.sizeOf3
 v3 := Tryz.zeroValue3
 t4 := Tryz.underlying4
 a4 := Tryz.isAgg4
 z4 := Tryz.sizeOf4
 v4 := Tryz.zeroValue4
 t9 := Tryz.underlying9
 a9 := Tryz.isAgg9
 z9 := Tryz.sizeOf9
 v9 := Tryz.zeroValue9
 t31 := Tryz.underlying22
 a31 := Tryz.isAgg22
 z31 := Tryz.sizeOf22
 v31 := Tryz.zeroValue22
def z10w : Go.Shelf.Ren := ⟨fun | 6 => 29 | 8 => 40 | 9 => 39 | 19 => 56 | 20 => 57 | 21 => 47 | 22 => 48 | 23 => 49 | 24 => 50 | 25 => 51 | 26 => 52 | 27 => 53 | 28 => 54 | 29 => 55 | 31 => 67 | 32 => 68 | 36 => 66 | 37 => 69 | 38 => 70 | 39 => 71 | 41 => 80 | n => n,
 fun | 0 => 0 | 3 => 3 | 4 => 4 | 5 => 5 | 9 => 9 | 26 => 22 | 27 => 22 | 29 => 9 | 32 => 53 | 35 => 58 | 36 => 59 | 41 => 63 | 44 => 66 | 46 => 68 | 53 => 78 | 57 => 82 | 63 => 90 | 64 => 91 | n => n,
 fun  | n => n⟩
theorem zyr : SlLaysM.n6 Tryz.prog z10w where
 mixed := by kernel_rfl
 f6 := ⟨"slices.Sort[[]string,string]", by decide, Tryz.func29.trans (congrArg some (by kernel_rfl))⟩
 f8 := Tryz.func40.trans (congrArg some (by kernel_rfl))
 f9 := ⟨"slices.pdqsortOrdered[string]", by decide, Tryz.func39.trans (congrArg some (by kernel_rfl))⟩
 f19 := Tryz.func56.trans (congrArg some (by kernel_rfl))
 f20 := Tryz.func57.trans (congrArg some (by kernel_rfl))
 f21 := ⟨"slices.insertionSortOrdered[string]", by decide, Tryz.func47.trans (congrArg some (by kernel_rfl))⟩
 f22 := ⟨"slices.heapSortOrdered[string]", by decide, Tryz.func48.trans (congrArg some (by kernel_rfl))⟩
 f23 := ⟨"slices.breakPatternsOrdered[string]", by decide, Tryz.func49.trans (congrArg some (by kernel_rfl))⟩
 f24 := ⟨"slices.choosePivotOrdered[string]", by decide, Tryz.func50.trans (congrArg some (by kernel_rfl))⟩
 f25 := ⟨"slices.reverseRangeOrdered[string]", by decide, Tryz.func51.trans (congrArg some (by kernel_rfl))⟩
 f26 := ⟨"slices.partialInsertionSortOrdered[string]", by decide, Tryz.func52.trans (congrArg some (by kernel_rfl))⟩
 f27 := ⟨"cmp.Less[string]", by decide, Tryz.func53.trans (congrArg some (by kernel_rfl))⟩
 f28 := ⟨"slices.partitionEqualOrdered[string]", by decide, Tryz.func54.trans (congrArg some (by kernel_rfl))⟩
 f29 := ⟨"slices.partitionOrdered[string]", by decide, Tryz.func55.trans (congrArg some (by kernel_rfl))⟩
 f31 := Tryz.func67.trans (congrArg some (by kernel_rfl))
 f32 := Tryz.func68.trans (congrArg some (by kernel_rfl))
 f36 := ⟨"slices.siftDownOrdered[string]", by decide, Tryz.func66.trans (congrArg some (by kernel_rfl))⟩
 f37 := ⟨"slices.medianAdjacentOrdered[string]", by decide, Tryz.func69.trans (congrArg some (by kernel_rfl))⟩
 f38 := ⟨"slices.medianOrdered[string]", by decide, Tryz.func70.trans (congrArg some (by kernel_rfl))⟩
 f39 := ⟨"cmp.isNaN[string]", by decide, Tryz.func71.trans (congrArg some (by kernel_rfl))⟩
 f41 := ⟨"slices.order2Ordered[string]", by decide, Tryz.func80.trans (congrArg some (by kernel_rfl))⟩
 t0 := Tryz.underlying0
 a0 := Tryz.isAgg0
 z0 := Tryz.sizeOf0
 v0 := Tryz.zeroValue0
 t3 := Tryz.underlying3
 a3 := Tryz.isAgg3
 z3 := Tryz.sizeOf3
 v3 := Tryz.zeroValue3
 t4 := Tryz.underlying4
 a4 := Tryz.isAgg4
 z4 := Tryz.sizeOf4
 v4 := Tryz.zeroValue4
 t5 := Tryz.underlying5
 a5 := Tryz.isAgg5
 z5 := Tryz.sizeOf5
 v5 := Tryz.zeroValue5
 t9 := Tryz.underlying9
 a9 := Tryz.isAgg9
 z9 := Tryz.sizeOf9
 v9 := Tryz.zeroValue9
 t26 := Tryz.underlying22
 a26 := Tryz.isAgg22
 z26 := Tryz.sizeOf22
 v26 := Tryz.zeroValue22
 t27 := Tryz.underlying22
 a27 := Tryz.isAgg22
 z27 := Tryz.sizeOf22
 v27 := Tryz.zeroValue22
 t29 := Tryz.underlying9
 a29 := Tryz.isAgg9
 z29 := Tryz.sizeOf9
 v29 := Tryz.zeroValue9
 t32 := Tryz.underlying53
 a32 := Tryz.isAgg53
 z32 := Tryz.sizeOf53
 v32 := Tryz.zeroValue53
 t35 := Tryz.underlying58
 a35 := Tryz.isAgg58
 z35 := Tryz.sizeOf58
 v35 := Tryz.zeroValue58
 t36 := Tryz.underlying59
 a36 := Tryz.isAgg59
 z36 := Tryz.sizeOf59
 v36 := Tryz.zeroValue59
 t41 := Tryz.underlying63
 a41 := Tryz.isAgg63
 z41 := Tryz.sizeOf63
 v41 := Tryz.zeroValue63
 t44 := Tryz.underlying66
 a44 := Tryz.isAgg66
 z44 := Tryz.sizeOf66
 v44 := Tryz.zeroValue66
 t46 := Tryz.underlying68
 a46 := Tryz.isAgg68
 z46 := Tryz.sizeOf68
 v46 := Tryz.zeroValue68
 t53 := Tryz.underlying78
 a53 := Tryz.isAgg78
 z53 := Tryz.sizeOf78
 v53 := Tryz.zeroValue78
 t57 := Tryz.underlying82
 a57 := Tryz.isAgg82
 z57 := Tryz.sizeOf82
 v57 := Tryz.zeroValue82
 t63 := Tryz.underlying90
 a63 := Tryz.isAgg90
 z63 := Tryz.sizeOf90
 v63 := Tryz.zeroValue90
 t64 := Tryz.underlying91
 a64 := Tryz.isAgg91
 z64 := Tryz.sizeOf91
 v64 := Tryz.zeroValue91
end Go.Proofs.YtomgkgngbpnngaaGreatDoor
set_option linter.unusedVariables false
set_option linter.unusedSimpArgs false
namespace Go.Proofs.YtomgkgngbpnngaaGreatDoor
open Go.RowKit Go.Shelf Go.Proofs Go.Sort
attribute [local go_sem] Oper.semAt_some
def upto {α : Type} (f : Nat → α) (k : Nat) : List α := (List.range k).map f
theorem zxj {α : Type} (f : Nat → α) (k : Nat) : upto f (k + 1) = upto f k ++ [f k] := by simp [upto, List.range_succ]
theorem z11u {α : Type} (f : Nat → α) (k : Nat) : (upto f k).length = k := by simp [upto]
theorem z1ae {α : Type} (zs : List α) (d : α) : upto (fun j => zs[j]?.getD d) zs.length = zs := by
 apply List.ext_getElem
 · simp [upto]
 · intro i h1 h2
   simp [upto, h2]
set_option maxRecDepth 100000 in
set_option maxHeartbeats 2000000 in
theorem z15j (F : Fence) (n : Nat) (h7 : F.fn 30) (hro : F.round = none) (hn : 1 ≤ n) (l Bs Bo n₀ b off len cap : Nat) (zs : List (List UInt8)) (hreach : len * 16 ≤ 140737488351232) (hb : b < n₀) (J Jx : List (List UInt8) → World → Prop)
   (hY : ∀ pre x W, J pre W → pre.length < len → YieldAt F (n - 1) Tryz.prog l #[encStr x] W fun e W' =>
     (e = .returned (.bool true) ∧ J (pre ++ [x]) W' ∧ Below n₀ W W') ∨ (e = .returned (.bool false) ∧ Jx (pre ++ [x]) W'))
   (W : World) (hBs : W.cell? ⟨Bs, Bo, none⟩ = some (.slice (some ⟨b, off, none⟩) len cap)) (hc : ∀ j, j < len → W.cell? ⟨b, off + j, none⟩ = some (encStr (zs[j]?.getD []))) (h0 : J [] W) :
   CallsIn F n Tryz.prog 30 #[.func (.yield l) #[] #[], .pointer (some ⟨Bs, Bo, none⟩)] W fun e W' => (∃ v, e = .returned v) ∧
     ((∃ ys, ys = upto (fun j => zs[j]?.getD []) len ∧ J ys W') ∨ (∃ pre, (∃ k, k ≤ len ∧ pre = upto (fun j => zs[j]?.getD []) k) ∧ Jx pre W')) := by
 refine callsIn_of_wp Tryz.func30 rfl h7 ?_ hro
 simp only [Tryz.ntmps30, List.size_toArray, List.length_cons, List.length_nil, Nat.reduceAdd, Nat.reduceSub, Array.replicate_succ, Array.replicate_zero, List.push_toArray, List.append_toArray, List.nil_append, List.cons_append]
 gi_wp2
 gi_loopw [7] (fun i wr => ∃ k : Nat, k ≤ len ∧ i = .int .i64 k ∧ J (upto (fun j => zs[j]?.getD []) k) wr ∧ Below n₀ W wr)
   (fun i _ => len - (intOf i).toNat)
 case atStart => exact ⟨0, Nat.zero_le _, rfl, h0, Below.refl _ _⟩
 case round =>
   obtain ⟨k, hk, rfl, hJs, hnx⟩ := hrel
   have hcx : k < len → wr.cell? ⟨b, off + k, none⟩ = some (encStr (zs[k]?.getD [])) := fun h => (hnx.cell (p := ⟨b, off + k, none⟩) hb).trans (hc k h)
   by_cases hlt : k < len
   · obtain ⟨fn, tmps, assign, body, hy, hR⟩ := hY _ (zs[k]?.getD []) wr hJs (by rw [z11u]; exact hlt)
     have hcx' := hcx hlt
     gi_wp2
     refine hR.mono ?_
     rintro e W3 (⟨rfl, hJ3, hk3⟩ | ⟨rfl, hJx3⟩)
     · gi_wp2
       go_roundw
       case rel => exact ⟨k + 1, by omega, by simp, by rw [zxj]; exact hJ3, hnx.trans hk3⟩
       case measure => simp [intOf]; omega
     · gi_wp2
       refine bodyPost_ret (results_none rfl _ _ _) rfl ?_
       exact ⟨⟨_, rfl⟩, .inr ⟨_, ⟨k + 1, by omega, (zxj _ _).symm⟩, hJx3⟩⟩
   · obtain rfl : k = len := by omega
     gi_wp2
     go_end0
     exact ⟨⟨_, rfl⟩, .inl ⟨_, rfl, hJs⟩⟩
theorem z18i {α : Type} (zs : List α) (d : α) {k : Nat} (hk : k ≤ zs.length) : upto (fun j => zs[j]?.getD d) k = zs.take k := by
 apply List.ext_getElem
 · simp [upto, hk]
 · intro i h1 h2
   have : i < zs.length := by simp [upto] at h1; omega
   simp [upto, this]
def TextsAt (n₀ : Nat) (W : World) (sv : Value) (zs : List (List UInt8)) : Prop :=
 (∃ a c, sv = .slice a 0 c ∧ zs = []) ∨ ∃ b off cap, sv = .slice (some ⟨b, off, none⟩) zs.length cap ∧ b < n₀ ∧ ∀ j, j < zs.length → W.cell? ⟨b, off + j, none⟩ = some (encStr (zs[j]?.getD []))
theorem TextsAt.below {n₀ : Nat} {A B : World} (h : Below n₀ A B) {sv : Value} {zs : List (List UInt8)} : TextsAt n₀ A sv zs → TextsAt n₀ B sv zs
 | .inl e => .inl e
 | .inr ⟨b, off, cap, e, hb, hc⟩ => .inr ⟨b, off, cap, e, hb, fun j hj => (h.cell (p := ⟨b, off + j, none⟩) hb).trans (hc j hj)⟩
set_option maxRecDepth 100000 in
set_option maxHeartbeats 1000000 in
theorem zwk (F : Fence) (n : Nat) (h7 : F.fn 30) (hro : F.round = none) (l Bs Bo : Nat) (sa : Option Addr) (sc : Nat) (J : List (List UInt8) → World → Prop) (W : World) (hBs : W.cell? ⟨Bs, Bo, none⟩ = some (.slice sa 0 sc)) (h0 : J [] W) :
   CallsIn F n Tryz.prog 30 #[.func (.yield l) #[] #[], .pointer (some ⟨Bs, Bo, none⟩)] W fun e W' => (∃ v, e = .returned v) ∧ J [] W' := by
 refine callsIn_of_wp Tryz.func30 rfl h7 ?_ hro
 simp only [Tryz.ntmps30, List.size_toArray, List.length_cons, List.length_nil, Nat.reduceAdd, Nat.reduceSub, Array.replicate_succ, Array.replicate_zero, List.push_toArray, List.append_toArray, List.nil_append, List.cons_append]
 gi_wp2
 gi_loopw [7] (fun i wr => i = .int .i64 0 ∧ J [] wr) (fun _ _ => 0)
 case atStart => exact ⟨rfl, h0⟩
 case round =>
   obtain ⟨rfl, hJs⟩ := hrel
   gi_wp2
   go_end0
   exact ⟨⟨_, rfl⟩, hJs⟩
theorem zzk (F : Fence) (n : Nat) (h7 : F.fn 30) (hro : F.round = none) (hn : 1 ≤ n) (Bs Bo n₀ : Nat) (sv : Value) (zs : List (List UInt8)) (hreach : zs.length * 16 ≤ 140737488351232) (w : World) (hBs : Bs < w.heap.size) (hn₀ : n₀ ≤ w.heap.size)
   (hc : w.cell? ⟨Bs, Bo, none⟩ = some sv) (hI : TextsAt n₀ w sv zs) :
   SeqStopsK F n Tryz.prog 30 #[.pointer (some ⟨Bs, Bo, none⟩)] (fun x : List UInt8 => #[encStr x]) (Below n₀) (fun ys => ys = zs) (fun pre => pre <+: zs) zs.length w := fun l J Jx W hW _ _ hY h0 => by
 have hc' := (hW.cell (p := ⟨Bs, Bo, none⟩) hBs).trans hc
 rcases hI.below (hW.mono hn₀) with ⟨a, c, rfl, rfl⟩ | ⟨b, off, cap, rfl, hb, hcs⟩
 · exact (zwk F n h7 hro l Bs Bo a c J W hc' h0).mono fun e W' ⟨he, hj⟩ => ⟨he, .inl ⟨_, rfl, hj⟩⟩
 · refine (z15j F n h7 hro hn l Bs Bo n₀ b off zs.length cap zs hreach hb J Jx hY W hc' hcs h0).mono ?_
   rintro e W' ⟨he, ⟨ys, rfl, hj⟩ | ⟨pre, ⟨k, hk, rfl⟩, hj⟩⟩
   · exact ⟨he, .inl ⟨_, z1ae zs _, hj⟩⟩
   · exact ⟨he, .inr ⟨_, by rw [z18i zs _ hk]; exact List.take_prefix _ _, hj⟩⟩
theorem info9 : (Tryz.prog.info? 9).map (fun i => (i.zero, i.size, i.bytes)) = some (some (.string ⟨#[]⟩), 1, 16) := by kernel_rfl
set_option maxRecDepth 100000 in
set_option maxHeartbeats 4000000 in
theorem zyq (F : Fence) (n : Nat) (h3 : F.fn 38) (h5 : F.fn 30) (hro : F.round = none) (hn : 2 ≤ n) (Bs Bo : Nat) (sv : Value) (zs : List (List UInt8)) (hlen : zs.length ≤ maxLen) (hbytes : zs.length * 16 ≤ 140737488351232) (w : World) (hBs : Bs < w.heap.size)
   (hc : w.cell? ⟨Bs, Bo, none⟩ = some sv) (hI : TextsAt w.heap.size w sv zs) :
   CallsIn F n Tryz.prog 38 #[.slice none 0 0, .func (.func 30) #[] #[.pointer (some ⟨Bs, Bo, none⟩)]] w fun e W' => ∃ v, e = .returned v ∧ W'.ownsRow w.heap.size 9 1 v zs.length (zs.map encStr) ∧ Below w.heap.size w W' := by
 have h1 : 1 ≤ n := by omega
 obtain ⟨i0, hi, hz0, hz1, hz2⟩ := info_parts info9
 refine callsIn_of_wp_marks Tryz.func38 rfl h3 ?_ hro
 simp only [Tryz.ntmps38, List.size_toArray, List.length_cons, List.length_nil, Nat.reduceAdd, Nat.reduceSub, Array.replicate_succ, Array.replicate_zero, List.push_toArray, List.append_toArray, List.nil_append, List.cons_append]
 gi_wp2
 have bO := Boxed.new w 22 (.slice none 0 0)
 have hB0 : Below w.heap.size w (w.alloc (.cells #[.slice none 0 0] 22)) := (Below.refl _ w).alloc (Nat.le_refl _) _
 refine wpIn_rangeFunc_ownG hro h1 (gf := 30) (lb := #[.pointer (some ⟨Bs, Bo, none⟩)]) rfl h5 (enters_of Tryz.func30 (by kernel_rfl) rfl)
   (zzk F (n - 1) h5 hro (by omega) Bs Bo w.heap.size sv zs hbytes _ (by simp; omega) (by simp) ((hB0.cell (p := ⟨Bs, Bo, none⟩) hBs).trans hc) (hI.below hB0)) belowK_t (belowK_b (by simp)) (Below.refl _ _) (fun _ => rfl)
   (fun pre W => (∃ v, Boxed W w.heap.size 22 v ∧ W.ownsRow w.heap.size 9 1 v pre.length (pre.map encStr) ∧ True) ∧ Below w.heap.size w W)
   (fun _ _ _ => False)
   (OwnFrom.and (Own.from (holdsRow_own w.heap.size w.heap.size 22 9 1 (fun pre => List.length pre) (fun pre => pre.map encStr) (fun _ _ => True)) _) (ownFrom_below (Nat.le_refl _) (by simp)))
   (fun _ _ _ _ _ hs _ _ => hs)
   ⟨⟨_, bO, World.ownsRow_nil _ _ _ _, trivial⟩, hB0⟩
   (fun x => { tmps := #[.slice none 0 0, .func (.func 30) #[] #[.pointer (some ⟨Bs, Bo, none⟩)], .pointer (some ⟨w.heap.size, 0, none⟩), undef, .slice none 0 0, encStr x, .func (.func 30) #[] #[.pointer (some ⟨Bs, Bo, none⟩)], encStr x, undef, undef, undef, undef, undef], defers := [] }) ?assign ?body ?done ?stop
 case assign =>
   intro l x W K hK
   gi_wp2
   exact hK
 case body =>
   rintro l pre x W ⟨⟨v, hv, hrow, _⟩, hB⟩ hlt
   have hc := hv.cell
   gi_wp2_with (gi_at_builtin; refine wpListIn_append_own _ rfl _ _ 22 rfl w.heap.size 9 i0 (.string ⟨#[]⟩) 1 16 Tryz.underlying22 hi hz0 hz1 hz2 rfl (by decide) _ _ _ rfl (hrow.alloc _) ⟨W.heap.size, 0, none⟩ 1 1 [encStr x] rfl rfl (cell_one_new _ _ _) (by simp [Value.oneCell', encStr]) (by omega) (by omega) (by have := hB.size; simp; omega) ?_; intro v' w1 hown' hgrow _; obtain ⟨g', cap', rfl⟩ := ownsRow_succ hown'; obtain ⟨hv1, hv2, hr2, hk2, hb2⟩ := hv.appended (by decide) hrow hB.size (Nat.le_refl _) hown' hgrow; have hc1 := hv1.cell; have hf1 := hv1.frozen)
   exact ⟨hk2.from _, hb2, ⟨_, hv2, by simpa using hr2, trivial⟩, hB.trans hb2⟩
 case done =>
   rintro D ys W hD rfl ⟨⟨v, hv, hrow, _⟩, hB⟩ hK
   have hc := hv.cell
   gi_wp2
   refine ⟨by simp, .inl ⟨_, _, rfl, run_takeDeferred hK, ?_⟩⟩
   exact ⟨_, results_tmp rfl _ _ _, v, rfl, ownsRow_putObj hrow _ hK rfl, hB.trans (belowK_b (w := w) (Nat.le_refl _) W D _ _ (by simp at hD; omega) hK rfl rfl)⟩
 case stop =>
   rintro D c pre W _ _ h _
   exact h.elim
end Go.Proofs.YtomgkgngbpnngaaGreatDoor
set_option linter.unusedVariables false
set_option linter.unusedSimpArgs false
namespace Go.Proofs.YtomgkgngbpnngaaGreatDoor
open Go.RowKit Go.Shelf Go.Proofs Go.Sort
attribute [local go_sem] Oper.semAt_some
set_option maxRecDepth 100000 in
set_option maxHeartbeats 4000000 in
theorem z15b (F : Fence) (n : Nat) (h2 : F.fn 28) (h3 : F.fn 38) (h5 : F.fn 30) (hro : F.round = none) (hn : 3 ≤ n) (Bs Bo : Nat) (sv : Value) (zs : List (List UInt8)) (hlen : zs.length ≤ maxLen) (hbytes : zs.length * 16 ≤ 140737488351232) (w : World) (hBs : Bs < w.heap.size)
   (hc : w.cell? ⟨Bs, Bo, none⟩ = some sv) (hI : TextsAt w.heap.size w sv zs) :
   CallsIn F n Tryz.prog 28 #[.func (.func 30) #[] #[.pointer (some ⟨Bs, Bo, none⟩)]] w fun e W' => ∃ v, e = .returned v ∧ W'.ownsRow w.heap.size 9 1 v zs.length (zs.map encStr) ∧ Below w.heap.size w W' := by
 have h1 : 1 ≤ n := by omega
 refine callsIn_of_wp Tryz.func28 rfl h2 ?_ hro
 simp only [Tryz.ntmps28, List.size_toArray, List.length_cons, List.length_nil, Nat.reduceAdd, Nat.reduceSub, Array.replicate_succ, Array.replicate_zero, List.push_toArray, List.append_toArray, List.nil_append, List.cons_append]
 gi_wp2_with (gi_at_call 38; refine (zyq F (n - 1) h3 h5 hro (by omega) Bs Bo sv zs hlen hbytes _ hBs hc hI).mono ?_; rintro e w' ⟨v, rfl, hrow, hb⟩)
 go_ret
 exact ⟨v, rfl, hrow, hb⟩
set_option maxRecDepth 100000 in
set_option maxHeartbeats 4000000 in
theorem zza (Bs Bo : Nat) (sv : Value) (zs : List (List UInt8)) (hlen : zs.length * 16 ≤ 140737488351232) (w : World) (hBs : Bs < w.heap.size)
   (hc : w.cell? ⟨Bs, Bo, none⟩ = some sv) (hI : TextsAt w.heap.size w sv zs) :
   Calls Tryz.prog 19 #[.func (.func 30) #[] #[.pointer (some ⟨Bs, Bo, none⟩)]] w fun e W' => ∃ v, e = .returned v ∧ W'.ownsRow w.heap.size 9 1 v zs.length ((zs.mergeSort (fun x y => decide (x ≤ y))).map encStr) ∧ Below w.heap.size w W' := by
 have hmax : zs.length ≤ maxLen := by unfold maxLen; omega
 refine (callsIn_wide (n := 9)).1 ?_
 have h1 : 1 ≤ 9 := by omega
 have hro : Fence.wide.round = none := rfl
 have hF : ∀ f, Fence.wide.fn f := fun _ => trivial
 refine callsIn_of_wp Tryz.func19 rfl (hF _) ?_ hro
 simp only [Tryz.ntmps19, List.size_toArray, List.length_cons, List.length_nil, Nat.reduceAdd, Nat.reduceSub, Array.replicate_succ, Array.replicate_zero, List.push_toArray, List.append_toArray, List.nil_append, List.cons_append]
 gi_wp2_with (gi_at_call 28; refine (z15b Fence.wide 8 (hF _) (hF _) (hF _) hro (by omega) Bs Bo sv zs hmax hlen _ hBs hc hI).mono ?_; rintro e W ⟨v, rfl, hrow, hb⟩)
 rcases hrow.2 with ⟨rfl, hz⟩ | ⟨gb, cap, cur, rfl, hbase, hgb, r1, r2, r3, r4⟩
 · have hss : zs = [] := List.eq_nil_of_length_eq_zero hz
   subst hss
   gi_wp2_with (gi_at_call 29; refine CallsIn.mono (callsIn_wide.2 (AnyM.slices_Sort_string_none zyr none 0 W)) ?_; rintro e w' ⟨rfl, rfl⟩)
   go_ret
   exact ⟨.slice none 0 0, rfl, by simpa using hrow, hb⟩
 · have hH : Holds encStr W gb 0 zs.toArray := holds_of_block hgb (by simpa using r4)
   have hgl : gb < W.heap.size := (Array.getElem?_eq_some_iff.1 hgb).1
   have hsz : zs.length < 4611686018427387904 := by omega
   have cS := AnyM.slices_Sort_string zyr gb 0 cap zs W hH hgl hsz
   gi_wp2_with (gi_at_call 29; refine CallsIn.mono (callsIn_wide.2 cS) ?_; rintro e w' ⟨rfl, nn, os, rfl⟩)
   go_ret
   exact ⟨_, rfl, ownsRow_sorted (by simp) hbase hgb r1 r2 r3, hb.grown (grownBy_sorted _) hb.size (fun j hj => by cases hj; exact hbase)⟩
end Go.Proofs.YtomgkgngbpnngaaGreatDoor
set_option linter.unusedVariables false
set_option linter.unusedSimpArgs false
namespace Go.Proofs.YtomgkgngbpnngaaGreatDoor
open Go.Shelf Go.Proofs Go.RowKit Go.Sort Go.Lib
theorem z11q (w : World) (T : TypeId) (nd : Nat) (hs : nd ≤ 24) : Holds (fun (b : UInt8) => Value.int .u8 (b.toNat : Int)) (w.alloc (.cells zeros24 T)) w.heap.size 0 (Array.replicate nd (0 : UInt8)) := fun j hj => by
 have hj' : j < nd := by simpa using hj
 refine ⟨?_, World.frozen?_alloc_new _ _ _ _⟩
 rw [World.cell?_alloc_new, zeros24_at _ (by omega), getElem!_pos _ j hj]
 simp
theorem z1ad (w : World) (o : Obj) (dk : Array UInt8) (k : Nat) : ∃ os, (putRow (fun (b : UInt8) => Value.int .u8 (b.toNat : Int)) (w.alloc o) w.heap.size 0 dk).drewN k = grow (w.drewN k) os := by
 rw [alloc_eq_grow]
 obtain ⟨os', _, e⟩ := putRow_grow_new (fun (b : UInt8) => Value.int .u8 (b.toNat : Int)) w #[o] w.heap.size 0 dk (Nat.le_refl _)
 exact ⟨os', by rw [e]; rfl⟩
theorem z14g (w : World) (k : Nat) (os : Array Obj) : Below w.heap.size w (grow (w.drewN k) os) :=
 ⟨by simp [grow, World.drewN], by simp [grow, World.drewN], by simp [grow, World.drewN], by simp [grow, World.drewN], fun i hi => by simp [grow, World.drewN, Array.getElem?_append_left hi]⟩
set_option maxHeartbeats 6400000 in
set_option maxRecDepth 100000 in
theorem fuint (u : Nat) (hu64 : u < 18446744073709551616) (w : World) (htab : Lib.TabIs Tryz.prog w "internal/strconv.uint64pow10" .u64 Lib.pow10Tab) :
   Calls Tryz.prog 79 #[.int .u64 u, .int .i64 10] w fun e w' => e = .returned (.string ⟨(Lib.decDigits u).toArray⟩) ∧ Below w.heap.size w w' := by
 by_cases hs : u < 100
 · go_enter Tryz.func79, Tryz.ntmps79
   go_wp2_with (go_at_call 94; refine (Any.internal_strconv_small z1bg u hs _).mono ?_; rintro e w' ⟨rfl, rfl⟩)
   go_ret
   exact ⟨rfl, Below.refl _ _⟩
 · have hu1 : 1 ≤ u := by omega
   have hnd20 : Lib.nDigits u ≤ 20 := by have := Lib.numDigits_eq u hu1 hu64; split at this <;> omega
   have hal : Tryz.prog.arrayLen 101 = 24 := by simp [Program.arrayLen, Tryz.underlying101]
   have hsl1 : ∀ W, (Instr.sliceAt 101 (.pointer (some ⟨w.heap.size, 0, none⟩)) none (some (.int .i64 (Lib.nDigits u : Int))) none).run Tryz.prog W = .ok (.slice (some ⟨w.heap.size, 0, none⟩) (Lib.nDigits u) 24) W := fun W => by
     rw [run_sliceAt_array_h W 101 ⟨w.heap.size, 0, none⟩ (by simp [Program.arrayLen, Program.elem, Tryz.underlying101]) .i64 (Lib.nDigits u : Int) (by omega) (by rw [hal]; omega)]
     go_simp
     try omega
   have hH0 := z11q w 101 (Lib.nDigits u) (by omega)
   have hfmt := Any.internal_strconv_formatBase10 z1bc w.heap.size 0 24 u (Array.replicate (Lib.nDigits u) 0) (w.alloc (.cells Lib.zeros24 101)) hH0 (by rw [Array.size_replicate]; exact Lib.lt_pow_nDigits u) hu64 (by rw [Array.size_replicate]; omega)
   rw [Array.size_replicate] at hfmt
   have HH0 := Lib.hid hH0
   clear hH0 hal
   go_enter Tryz.func79, Tryz.ntmps79
   go_wp2_with (first
     | (go_at_call 95; refine (Any.internal_strconv_numDigits z19f u hu1 hu64 _ (Lib.tabIs_alloc htab _)).mono ?_; rintro e w' ⟨rfl, rfl⟩))
   go_at_call 96
   refine hfmt.mono ?_
   rintro e w' ⟨rfl, k, v', dk, rfl, hF⟩
   have hcv : (convert 96 9 (.slice (some ⟨w.heap.size, 0, none⟩) (Lib.nDigits u) 24)).run Tryz.prog ((putRow (fun (b : UInt8) => Value.int .u8 (b.toNat : Int)) (w.alloc (.cells Lib.zeros24 101)) w.heap.size 0 dk).drewN k) = .ok (.string ⟨(Lib.decDigits u).toArray⟩) ((putRow (fun (b : UInt8) => Value.int .u8 (b.toNat : Int)) (w.alloc (.cells Lib.zeros24 101)) w.heap.size 0 dk).drewN k) := by
     have h := run_convert_bytes_back (P := Tryz.prog) ((putRow (fun (b : UInt8) => Value.int .u8 (b.toNat : Int)) (w.alloc (.cells Lib.zeros24 101)) w.heap.size 0 dk).drewN k) 96 9 5 ⟨w.heap.size, 0, none⟩ 24 (Lib.decDigits u) Tryz.underlying96 Tryz.underlying5 Tryz.underlying9 (fun j hj => by
       rw [Lib.row_is_numeral hF j hj, Lib.add_plain, World.cell?_drewN]
       exact cell?_putRow (fun (b : UInt8) => Value.int .u8 (b.toNat : Int)) _ w.heap.size 0 _ dk HH0.out (by rw [hF.size, Array.size_replicate]) j (by rw [hF.size]; rw [Lib.decDigits_length] at hj; exact hj))
     rw [Lib.decDigits_length] at h
     exact h
   go_wp2
   go_ret
   obtain ⟨os, eo⟩ := z1ad w (.cells Lib.zeros24 101) dk k
   refine ⟨rfl, ?_⟩
   have := z14g w k os
   rw [← eo] at this
   exact this
end Go.Proofs.YtomgkgngbpnngaaGreatDoor
set_option linter.unusedVariables false
set_option linter.unusedSimpArgs false
namespace Go.Proofs.YtomgkgngbpnngaaGreatDoor
open Go.Shelf Go.Proofs Go.RowKit Go.Sort Go.Lib Go.Ab
def zj8 (s : ByteArray) : Bool := match Lib.parseUintB 32 s.data.toList with
 | .ok u => Lib.decDigits u == s.data.toList
 | _ => false
theorem z15r {w w' : World} (h : Below w.heap.size w w') (hs : gb ≤ w.heap.size) (g : Glob w) : Glob w' := g.stay fun k hk => h.block k (Nat.lt_of_lt_of_le hk hs)
theorem z1d2 (u : Nat) (hu64 : u < 18446744073709551616) (w : World) (htab : Lib.TabIs Tryz.prog w "internal/strconv.uint64pow10" .u64 Lib.pow10Tab) :
   Calls Tryz.prog 65 #[.int .u64 u, .int .i64 10] w fun e w' => e = .returned (.string ⟨(Lib.decDigits u).toArray⟩) ∧ Below w.heap.size w w' := by
 go_enter Tryz.func65, Tryz.ntmps65
 go_wp2_with (go_at_call 79; refine (fuint u hu64 _ htab).mono ?_; rintro e w' ⟨rfl, hb⟩)
 go_ret
 exact ⟨rfl, hb⟩
set_option maxHeartbeats 6400000 in
set_option maxRecDepth 100000 in
theorem z11d (s : ByteArray) (hlim : s.size ≤ 281474976710656) (w : World) (hs : gb ≤ w.heap.size) (g : Glob w) :
   Calls Tryz.prog 45 #[.string s] w fun e w' => e = .returned (.bool (zj8 s)) ∧ Below w.heap.size w w' := by
 obtain ⟨htab, ⟨tp, p, hsy⟩, tp2, p2, hra⟩ := id g
 unfold zj8
 cases hp : Lib.parseUintB 32 s.data.toList
 · rename_i u
   have hu := Lib.parseUintB_le hp
   have key : ∀ w', Below w.heap.size w w' → Lib.TabIs Tryz.prog w' "internal/strconv.uint64pow10" .u64 Lib.pow10Tab := fun w' hb => (z15r hb hs g).1
   go_enter Tryz.func45, Tryz.ntmps45
   go_wp2_with (first
     | (go_at_call 64; refine (Any.strconv_ParseUint_10_at32_ok ztm s (by omega) u hp _).mono ?_; rintro e w' ⟨rfl, hw⟩; have hb : Below w.heap.size w w' := hw.elim (fun h => h ▸ Below.refl _ _) (fun h => h ▸ Lib.bytesWorld_below _ _ _); clear hw)
     | (go_at_call 65; refine (z1d2 u (by omega) _ (key _ hb)).mono ?_; rintro e w'' ⟨rfl, hb2⟩))
   go_ret
   exact ⟨by simp [ByteArray.toList_eq], hb.trans ⟨hb2.os, hb2.tape, hb2.output, hb2.size, fun k hk => hb2.block k (Nat.lt_of_lt_of_le hk hb.size)⟩⟩
 · go_enter Tryz.func45, Tryz.ntmps45
   go_wp2_with (go_at_call 64; refine (Any.strconv_ParseUint_10_at32_syntax_var ztm s hlim hp tp p _ hsy).mono ?_; rintro e w' ⟨N, rfl, hN, hc, hb⟩)
   go_ret
   exact ⟨rfl, hb⟩
 · go_enter Tryz.func45, Tryz.ntmps45
   go_wp2_with (go_at_call 64; refine (Any.strconv_ParseUint_10_at32_range_var ztm s hlim hp tp2 p2 _ hra).mono ?_; rintro e w' ⟨N, rfl, hN, hc, hb⟩)
   go_ret
   exact ⟨rfl, hb⟩
end Go.Proofs.YtomgkgngbpnngaaGreatDoor