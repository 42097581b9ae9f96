import Derived.Test.YtomgkgngbpnngaaDoorProg
import Derived.Shelf.Pu.ErrVarParseUint
import Derived.Shelf.Strconv.Itoa4
import Derived.Shelf.Strings.Runes
import Derived.Shelf.Strings.Search1
import Derived.Shelf.Strings.Split
import Derived.Shelf.Slices.CompactS
import Derived.Shelf.SortM.Plain
import Derived.Shelf.SortM.SortNone
import Derived.RangeFuncBox
import Derived.RangeFuncLeaves
import Derived.Shelf.Abstract
import Derived.WalkKit
import Derived.OwnWalkIn
import Derived.TacticsInMore
import Derived.LoopNIn
import Derived.LoopIn
import Derived.Maps.AppendAt
import Derived.Sort.OwnSorted
import Derived.Lib.Walk
import Derived.Lib.ItoaMem
import Derived.BigCall
import Derived.BigGuard
import Derived.Test.YtomgkgngbpnngaaDoorAb0to4
import Derived.Lib.ConvBytes
namespace Go.Proofs.YtomgkgngbpnngaaDoor
open Go.Shelf Go.Proofs
def zuj : Go.Shelf.Ren := ⟨fun | 14 => 50 | 16 => 63 | 17 => 64 | 19 => 74 | 20 => 75 | 21 => 76 | 22 => 77 | 23 => 78 | 24 => 79 | 25 => 86 | 26 => 87 | 27 => 88 | 28 => 93 | 29 => 96 | 30 => 80 | 31 => 81 | 32 => 82 | 33 => 83 | 34 => 89 | 35 => 43 | 36 => 90 | 37 => 91 | 38 => 92 | 39 => 94 | 40 => 95 | n => n,
 fun | 0 => 0 | 2 => 2 | 3 => 3 | 4 => 4 | 5 => 5 | 9 => 9 | 20 => 20 | 21 => 21 | 22 => 60 | 24 => 66 | 25 => 67 | 34 => 86 | 36 => 45 | 37 => 88 | 39 => 89 | 44 => 105 | 47 => 111 | 48 => 112 | 50 => 114 | 52 => 93 | 55 => 95 | 59 => 108 | 60 => 58 | 61 => 109 | 65 => 116 | 66 => 117 | 67 => 118 | n => n,
 fun | 0 => 3 | 1 => 4 | 2 => 5 | 3 => 6 | 4 => 7 | n => n⟩
theorem znw : LaysPu.n14 Tryd.prog zuj where
 mixed := by kernel_rfl
 f14 := Tryd.func50.trans (congrArg some (by kernel_rfl))
 f16 := Tryd.func63.trans (congrArg some (by kernel_rfl))
 f17 := Tryd.func64.trans (congrArg some (by kernel_rfl))
 f19 := Tryd.func74.trans (congrArg some (by kernel_rfl))
 f20 := Tryd.func75.trans (congrArg some (by kernel_rfl))
 f21 := Tryd.func76.trans (congrArg some (by kernel_rfl))
 f22 := Tryd.func77.trans (congrArg some (by kernel_rfl))
 f23 := Tryd.func78.trans (congrArg some (by kernel_rfl))
 f24 := Tryd.func79.trans (congrArg some (by kernel_rfl))
 f25 := Tryd.func86.trans (congrArg some (by kernel_rfl))
 f26 := Tryd.func87.trans (congrArg some (by kernel_rfl))
 f27 := Tryd.func88.trans (congrArg some (by kernel_rfl))
 f28 := Tryd.func93.trans (congrArg some (by kernel_rfl))
 f29 := Tryd.func96.trans (congrArg some (by kernel_rfl))
 f30 := Tryd.func80.trans (congrArg some (by kernel_rfl))
 f31 := Tryd.func81.trans (congrArg some (by kernel_rfl))
 f32 := Tryd.func82.trans (congrArg some (by kernel_rfl))
 f33 := Tryd.func83.trans (congrArg some (by kernel_rfl))
 f34 := Tryd.func89.trans (congrArg some (by kernel_rfl))
 f35 := Tryd.func43.trans (congrArg some (by kernel_rfl))
 f36 := Tryd.func90.trans (congrArg some (by kernel_rfl))
 f37 := Tryd.func91.trans (congrArg some (by kernel_rfl))
 f38 := Tryd.func92.trans (congrArg some (by kernel_rfl))
 f39 := Tryd.func94.trans (congrArg some (by kernel_rfl))
 f40 := Tryd.func95.trans (congrArg some (by kernel_rfl))
 t0 := Tryd.underlying0
 a0 := Tryd.isAgg0
 z0 := Tryd.sizeOf0
 v0 := Tryd.zeroValue0
 i0 := by kernel_rfl
 t2 := Tryd.underlying2
 a2 := Tryd.isAgg2
 z2 := Tryd.sizeOf2
 v2 := Tryd.zeroValue2
 i2 := by kernel_rfl
 t3 := Tryd.underlying3
 a3 := Tryd.isAgg3
 z3 := Tryd.sizeOf3
 v3 := Tryd.zeroValue3
 i3 := by kernel_rfl
 t4 := Tryd.underlying4
 a4 := Tryd.isAgg4
 z4 := Tryd.sizeOf4
 v4 := Tryd.zeroValue4
 i4 := by kernel_rfl
 t5 := Tryd.underlying5
 a5 := Tryd.isAgg5
 z5 := Tryd.sizeOf5
 v5 := Tryd.zeroValue5
 i5 := by kernel_rfl
 t9 := Tryd.underlying9
 a9 := Tryd.isAgg9
 z9 := Tryd.sizeOf9
 v9 := Tryd.zeroValue9
 i9 := by kernel_rfl
 t20 := Tryd.underlying20
 a20 := Tryd.isAgg20
 z20 := Tryd.sizeOf20
 v20 := Tryd.zeroValue20
 i20 := by kernel_rfl
 t21 := Tryd.underlying21
 a21 := Tryd.isAgg21
 z21 := Tryd.sizeOf21
 v21 := Tryd.zeroValue21
 i21 := by kernel_rfl
 t22 := Tryd.underlying60
 a22 := Tryd.isAgg60
 z22 := Tryd.sizeOf60
 v22 := Tryd.zeroValue60
 i22 := by kernel_rfl
 t24 := Tryd.underlying66
 a24 := Tryd.isAgg66
 z24 := Tryd.sizeOf66
 v24 := Tryd.zeroValue66
 i24 := by kernel_rfl
 t25 := Tryd.underlying67
 a25 := Tryd.isAgg67
 z25 := Tryd.sizeOf67
 v25 := Tryd.zeroValue67
 i25 := by kernel_rfl
 t34 := Tryd.underlying86
 a34 := Tryd.isAgg86
 z34 := Tryd.sizeOf86
 v34 := Tryd.zeroValue86
 i34 := by kernel_rfl
 c34 := by kernel_rfl
 t36 := Tryd.underlying45
 a36 := Tryd.isAgg45
 z36 := Tryd.sizeOf45
 v36 := Tryd.zeroValue45
 i36 := by kernel_rfl
 t37 := Tryd.underlying88
 a37 := Tryd.isAgg88
 z37 := Tryd.sizeOf88
 v37 := Tryd.zeroValue88
 i37 := by kernel_rfl
 t39 := Tryd.underlying89
 a39 := Tryd.isAgg89
 z39 := Tryd.sizeOf89
 v39 := Tryd.zeroValue89
 i39 := by kernel_rfl
 t44 := Tryd.underlying105
 a44 := Tryd.isAgg105
 z44 := Tryd.sizeOf105
 v44 := Tryd.zeroValue105
 i44 := by kernel_rfl
 t47 := Tryd.underlying111
 a47 := Tryd.isAgg111
 z47 := Tryd.sizeOf111
 v47 := Tryd.zeroValue111
 i47 := by kernel_rfl
 t48 := Tryd.underlying112
 a48 := Tryd.isAgg112
 z48 := Tryd.sizeOf112
 v48 := Tryd.zeroValue112
 i48 := by kernel_rfl
 t50 := Tryd.underlying114
 a50 := Tryd.isAgg114
 z50 := Tryd.sizeOf114
 v50 := Tryd.zeroValue114
 i50 := by kernel_rfl
 t52 := Tryd.underlying93
 a52 := Tryd.isAgg93
 z52 := Tryd.sizeOf93
 v52 := Tryd.zeroValue93
 i52 := by kernel_rfl
 t55 := Tryd.underlying95
 a55 := Tryd.isAgg95
 z55 := Tryd.sizeOf95
 v55 := Tryd.zeroValue95
 i55 := by kernel_rfl
 t59 := Tryd.underlying108
 a59 := Tryd.isAgg108
 z59 := Tryd.sizeOf108
 v59 := Tryd.zeroValue108
 i59 := by kernel_rfl
 t60 := Tryd.underlying58
 a60 := Tryd.isAgg58
 z60 := Tryd.sizeOf58
 v60 := Tryd.zeroValue58
 i60 := by kernel_rfl
 t61 := Tryd.underlying109
 a61 := Tryd.isAgg109
 z61 := Tryd.sizeOf109
 t65 := Tryd.underlying116
 a65 := Tryd.isAgg116
 z65 := Tryd.sizeOf116
 v65 := Tryd.zeroValue116
 i65 := by kernel_rfl
 t66 := Tryd.underlying117
 a66 := Tryd.isAgg117
 z66 := Tryd.sizeOf117
 v66 := Tryd.zeroValue117
 i66 := by kernel_rfl
 t67 := Tryd.underlying118
 a67 := Tryd.isAgg118
 z67 := Tryd.sizeOf118
 v67 := Tryd.zeroValue118
 i67 := by kernel_rfl
 g0 := by kernel_rfl
 m0 := by kernel_rfl
 g1 := by kernel_rfl
 m1 := by kernel_rfl
 g2 := by kernel_rfl
 m2 := by kernel_rfl
 g3 := by kernel_rfl
 m3 := by kernel_rfl
 g4 := by kernel_rfl
 m4 := by kernel_rfl
def zth : Go.Shelf.Ren := ⟨fun | 129 => 43 | 284 => 81 | 317 => 89 | 318 => 90 | n => n,
 fun | 0 => 0 | 3 => 3 | 4 => 4 | 5 => 5 | 9 => 9 | 46 => 45 | 53 => 60 | 212 => 108 | n => n,
 fun | 17 => 5 | n => n⟩
theorem z11g : LaysM.n284 Tryd.prog zth where
 mixed := by kernel_rfl
 f129 := Tryd.func43.trans (congrArg some (by kernel_rfl))
 f284 := Tryd.func81.trans (congrArg some (by kernel_rfl))
 f317 := Tryd.func89.trans (congrArg some (by kernel_rfl))
 f318 := Tryd.func90.trans (congrArg some (by kernel_rfl))
 t0 := Tryd.underlying0
 a0 := Tryd.isAgg0
 z0 := Tryd.sizeOf0
 v0 := Tryd.zeroValue0
 t3 := Tryd.underlying3
 a3 := Tryd.isAgg3
 z3 := Tryd.sizeOf3
 v3 := Tryd.zeroValue3
 t4 := Tryd.underlying4
 a4 := Tryd.isAgg4
 z4 := Tryd.sizeOf4
 v4 := Tryd.zeroValue4
 t5 := Tryd.underlying5
 a5 := Tryd.isAgg5
 z5 := Tryd.sizeOf5
 v5 := Tryd.zeroValue5
 t9 := Tryd.underlying9
 a9 := Tryd.isAgg9
 z9 := Tryd.sizeOf9
 v9 := Tryd.zeroValue9
 t46 := Tryd.underlying45
 a46 := Tryd.isAgg45
 z46 := Tryd.sizeOf45
 v46 := Tryd.zeroValue45
 t53 := Tryd.underlying60
 a53 := Tryd.isAgg60
 z53 := Tryd.sizeOf60
 v53 := Tryd.zeroValue60
 t212 := Tryd.underlying108
 a212 := Tryd.isAgg108
 z212 := Tryd.sizeOf108
 v212 := Tryd.zeroValue108
 g17 := by kernel_rfl
 i0 := by kernel_rfl
 i3 := by kernel_rfl
 i4 := by kernel_rfl
 i5 := by kernel_rfl
 i9 := by kernel_rfl
 i46 := by kernel_rfl
 i53 := by kernel_rfl
 i212 := by kernel_rfl
 m17 := by kernel_rfl
def zvh : Go.Shelf.Ren := ⟨fun | 283 => 80 | n => n,
 fun | 3 => 3 | 4 => 4 | 9 => 9 | n => n,
 fun  | n => n⟩
theorem z14u : Lays.n283 Tryd.prog zvh where
 mixed := by kernel_rfl
 f283 := Tryd.func80.trans (congrArg some (by kernel_rfl))
 t3 := Tryd.underlying3
 a3 := Tryd.isAgg3
 z3 := Tryd.sizeOf3
 v3 := Tryd.zeroValue3
 t4 := Tryd.underlying4
 a4 := Tryd.isAgg4
 z4 := Tryd.sizeOf4
 v4 := Tryd.zeroValue4
 t9 := Tryd.underlying9
 a9 := Tryd.isAgg9
 z9 := Tryd.sizeOf9
 v9 := Tryd.zeroValue9
def zvy : Go.Shelf.Ren := ⟨fun | 285 => 82 | n => n,
 fun | 0 => 0 | 3 => 3 | 4 => 4 | 5 => 5 | 9 => 9 | 37 => 88 | 51 => 58 | 53 => 60 | n => n,
 fun  | n => n⟩
theorem z13q : Lays.n285 Tryd.prog zvy where
 mixed := by kernel_rfl
 f285 := Tryd.func82.trans (congrArg some (by kernel_rfl))
 t0 := Tryd.underlying0
 a0 := Tryd.isAgg0
 z0 := Tryd.sizeOf0
 v0 := Tryd.zeroValue0
 t3 := Tryd.underlying3
 a3 := Tryd.isAgg3
 z3 := Tryd.sizeOf3
 v3 := Tryd.zeroValue3
 t4 := Tryd.underlying4
 a4 := Tryd.isAgg4
 z4 := Tryd.sizeOf4
 v4 := Tryd.zeroValue4
 t5 := Tryd.underlying5
 a5 := Tryd.isAgg5
 z5 := Tryd.sizeOf5
 v5 := Tryd.zeroValue5
 t9 := Tryd.underlying9
 a9 := Tryd.isAgg9
 z9 := Tryd.sizeOf9
 v9 := Tryd.zeroValue9
 t37 := Tryd.underlying88
 a37 := Tryd.isAgg88
 z37 := Tryd.sizeOf88
 v37 := Tryd.zeroValue88
 t51 := Tryd.underlying58
 a51 := Tryd.isAgg58
 z51 := Tryd.sizeOf58
 v51 := Tryd.zeroValue58
 t53 := Tryd.underlying60
 a53 := Tryd.isAgg60
 z53 := Tryd.sizeOf60
 v53 := Tryd.zeroValue60
def zv5 : Go.Shelf.Ren := ⟨fun | 119 => 73 | 137 => 72 | 151 => 49 | 152 => 62 | 217 => 68 | 224 => 70 | 225 => 69 | 266 => 84 | n => n,
 fun | 0 => 0 | 3 => 3 | 4 => 4 | 5 => 5 | 9 => 9 | 21 => 21 | 46 => 45 | n => n,
 fun  | n => n⟩
theorem zmr : Lays.n151 Tryd.prog zv5 where
 mixed := by kernel_rfl
 f119 := Tryd.func73.trans (congrArg some (by kernel_rfl))
 f137 := Tryd.func72.trans (congrArg some (by kernel_rfl))
 f151 := Tryd.func49.trans (congrArg some (by kernel_rfl))
 f152 := Tryd.func62.trans (congrArg some (by kernel_rfl))
 f217 := Tryd.func68.trans (congrArg some (by kernel_rfl))
 f224 := Tryd.func70.trans (congrArg some (by kernel_rfl))
 f225 := Tryd.func69.trans (congrArg some (by kernel_rfl))
 f266 := Tryd.func84.trans (congrArg some (by kernel_rfl))
 t0 := Tryd.underlying0
 a0 := Tryd.isAgg0
 z0 := Tryd.sizeOf0
 v0 := Tryd.zeroValue0
 t3 := Tryd.underlying3
 a3 := Tryd.isAgg3
 z3 := Tryd.sizeOf3
 v3 := Tryd.zeroValue3
 t4 := Tryd.underlying4
 a4 := Tryd.isAgg4
 z4 := Tryd.sizeOf4
 v4 := Tryd.zeroValue4
 t5 := Tryd.underlying5
 a5 := Tryd.isAgg5
 z5 := Tryd.sizeOf5
 v5 := Tryd.zeroValue5
 t9 := Tryd.underlying9
 a9 := Tryd.isAgg9
 z9 := Tryd.sizeOf9
 v9 := Tryd.zeroValue9
 t21 := Tryd.underlying21
 a21 := Tryd.isAgg21
 z21 := Tryd.sizeOf21
 v21 := Tryd.zeroValue21
 t46 := Tryd.underlying45
 a46 := Tryd.isAgg45
 z46 := Tryd.sizeOf45
 v46 := Tryd.zeroValue45
def zvd : Go.Shelf.Ren := ⟨fun | 137 => 72 | 217 => 68 | 266 => 84 | n => n,
 fun | 3 => 3 | 5 => 5 | 9 => 9 | n => n,
 fun  | n => n⟩
theorem zfs : Lays.n137 Tryd.prog zvd where
 mixed := by kernel_rfl
 f137 := Tryd.func72.trans (congrArg some (by kernel_rfl))
 f217 := Tryd.func68.trans (congrArg some (by kernel_rfl))
 f266 := Tryd.func84.trans (congrArg some (by kernel_rfl))
 t3 := Tryd.underlying3
 a3 := Tryd.isAgg3
 z3 := Tryd.sizeOf3
 v3 := Tryd.zeroValue3
 t5 := Tryd.underlying5
 a5 := Tryd.isAgg5
 z5 := Tryd.sizeOf5
 v5 := Tryd.zeroValue5
 t9 := Tryd.underlying9
 a9 := Tryd.isAgg9
 z9 := Tryd.sizeOf9
 v9 := Tryd.zeroValue9
def zvl : Go.Shelf.Ren := ⟨fun | 138 => 45 | 143 => 46 | 195 => 58 | 197 => 59 | 217 => 68 | 218 => 60 | 219 => 61 | 221 => 29 | 224 => 70 | 225 => 69 | 260 => 67 | 266 => 84 | 267 => 71 | 268 => 44 | 314 => 85 | n => n,
 fun | 0 => 0 | 3 => 3 | 4 => 4 | 5 => 5 | 9 => 9 | 21 => 21 | 31 => 22 | 46 => 45 | 51 => 58 | 105 => 77 | 119 => 97 | 138 => 99 | 139 => 100 | 146 => 101 | n => n,
 fun | 1 => 0 | 3 => 1 | 4 => 2 | n => n⟩
theorem z13u : Lays.n221 Tryd.prog zvl where
 mixed := by kernel_rfl
 f138 := Tryd.func45.trans (congrArg some (by kernel_rfl))
 f143 := Tryd.func46.trans (congrArg some (by kernel_rfl))
 f195 := Tryd.func58.trans (congrArg some (by kernel_rfl))
 f197 := Tryd.func59.trans (congrArg some (by kernel_rfl))
 f217 := Tryd.func68.trans (congrArg some (by kernel_rfl))
 f218 := Tryd.func60.trans (congrArg some (by kernel_rfl))
 f219 := Tryd.func61.trans (congrArg some (by kernel_rfl))
 f221 := Tryd.func29.trans (congrArg some (by kernel_rfl))
 f224 := Tryd.func70.trans (congrArg some (by kernel_rfl))
 f225 := Tryd.func69.trans (congrArg some (by kernel_rfl))
 f260 := Tryd.func67.trans (congrArg some (by kernel_rfl))
 f266 := Tryd.func84.trans (congrArg some (by kernel_rfl))
 f267 := Tryd.func71.trans (congrArg some (by kernel_rfl))
 f268 := Tryd.func44.trans (congrArg some (by kernel_rfl))
 f314 := Tryd.func85.trans (congrArg some (by kernel_rfl))
 t0 := Tryd.underlying0
 a0 := Tryd.isAgg0
 z0 := Tryd.sizeOf0
 v0 := Tryd.zeroValue0
 t3 := Tryd.underlying3
 a3 := Tryd.isAgg3
 z3 := Tryd.sizeOf3
 v3 := Tryd.zeroValue3
 t4 := Tryd.underlying4
 a4 := Tryd.isAgg4
 z4 := Tryd.sizeOf4
 v4 := Tryd.zeroValue4
 t5 := Tryd.underlying5
 a5 := Tryd.isAgg5
 z5 := Tryd.sizeOf5
 v5 := Tryd.zeroValue5
 t9 := Tryd.underlying9
 a9 := Tryd.isAgg9
 z9 := Tryd.sizeOf9
 v9 := Tryd.zeroValue9
 t21 := Tryd.underlying21
 a21 := Tryd.isAgg21
 z21 := Tryd.sizeOf21
 v21 := Tryd.zeroValue21
 t31 := Tryd.underlying22
 a31 := Tryd.isAgg22
 z31 := Tryd.sizeOf22
 v31 := Tryd.zeroValue22
 t46 := Tryd.underlying45
 a46 := Tryd.isAgg45
 z46 := Tryd.sizeOf45
 v46 := Tryd.zeroValue45
 t51 := Tryd.underlying58
 a51 := Tryd.isAgg58
 z51 := Tryd.sizeOf58
 v51 := Tryd.zeroValue58
 t105 := Tryd.underlying77
 a105 := Tryd.isAgg77
 z105 := Tryd.sizeOf77
 v105 := Tryd.zeroValue77
 t119 := Tryd.underlying97
 a119 := Tryd.isAgg97
 z119 := Tryd.sizeOf97
 t138 := Tryd.underlying99
 a138 := Tryd.isAgg99
 z138 := Tryd.sizeOf99
 v138 := Tryd.zeroValue99
 t139 := Tryd.underlying100
 a139 := Tryd.isAgg100
 z139 := Tryd.sizeOf100
 v139 := Tryd.zeroValue100
 t146 := Tryd.underlying101
 a146 := Tryd.isAgg101
 z146 := Tryd.sizeOf101
 v146 := Tryd.zeroValue101
 g1 := by kernel_rfl
 g3 := by kernel_rfl
 g4 := by kernel_rfl
def zv4 : Go.Shelf.Ren := ⟨fun | 143 => 46 | 217 => 68 | 219 => 61 | 224 => 70 | 225 => 69 | 266 => 84 | 267 => 71 | 314 => 85 | n => n,
 fun | 3 => 3 | 4 => 4 | 5 => 5 | 9 => 9 | 46 => 45 | 51 => 58 | 146 => 101 | n => n,
 fun | 1 => 0 | n => n⟩
theorem z14o : Lays.n143 Tryd.prog zv4 where
 mixed := by kernel_rfl
 f143 := Tryd.func46.trans (congrArg some (by kernel_rfl))
 f217 := Tryd.func68.trans (congrArg some (by kernel_rfl))
 f219 := Tryd.func61.trans (congrArg some (by kernel_rfl))
 f224 := Tryd.func70.trans (congrArg some (by kernel_rfl))
 f225 := Tryd.func69.trans (congrArg some (by kernel_rfl))
 f266 := Tryd.func84.trans (congrArg some (by kernel_rfl))
 f267 := Tryd.func71.trans (congrArg some (by kernel_rfl))
 f314 := Tryd.func85.trans (congrArg some (by kernel_rfl))
 t3 := Tryd.underlying3
 a3 := Tryd.isAgg3
 z3 := Tryd.sizeOf3
 v3 := Tryd.zeroValue3
 t4 := Tryd.underlying4
 a4 := Tryd.isAgg4
 z4 := Tryd.sizeOf4
 v4 := Tryd.zeroValue4
 t5 := Tryd.underlying5
 a5 := Tryd.isAgg5
 z5 := Tryd.sizeOf5
 v5 := Tryd.zeroValue5
 t9 := Tryd.underlying9
 a9 := Tryd.isAgg9
 z9 := Tryd.sizeOf9
 v9 := Tryd.zeroValue9
 t46 := Tryd.underlying45
 a46 := Tryd.isAgg45
 z46 := Tryd.sizeOf45
 v46 := Tryd.zeroValue45
 t51 := Tryd.underlying58
 a51 := Tryd.isAgg58
 z51 := Tryd.sizeOf58
 v51 := Tryd.zeroValue58
 t146 := Tryd.underlying101
 a146 := Tryd.isAgg101
 z146 := Tryd.sizeOf101
 v146 := Tryd.zeroValue101
 g1 := by kernel_rfl
def zv8 : Go.Shelf.Ren := ⟨fun | 138 => 45 | 143 => 46 | 195 => 58 | 217 => 68 | 218 => 60 | 219 => 61 | 224 => 70 | 225 => 69 | 266 => 84 | 267 => 71 | 314 => 85 | n => n,
 fun | 0 => 0 | 3 => 3 | 4 => 4 | 5 => 5 | 9 => 9 | 46 => 45 | 51 => 58 | 146 => 101 | n => n,
 fun | 1 => 0 | n => n⟩
theorem z13d : Lays.n138 Tryd.prog zv8 where
 mixed := by kernel_rfl
 f138 := Tryd.func45.trans (congrArg some (by kernel_rfl))
 f143 := Tryd.func46.trans (congrArg some (by kernel_rfl))
 f195 := Tryd.func58.trans (congrArg some (by kernel_rfl))
 f217 := Tryd.func68.trans (congrArg some (by kernel_rfl))
 f218 := Tryd.func60.trans (congrArg some (by kernel_rfl))
 f219 := Tryd.func61.trans (congrArg some (by kernel_rfl))
 f224 := Tryd.func70.trans (congrArg some (by kernel_rfl))
 f225 := Tryd.func69.trans (congrArg some (by kernel_rfl))
 f266 := Tryd.func84.trans (congrArg some (by kernel_rfl))
 f267 := Tryd.func71.trans (congrArg some (by kernel_rfl))
 f314 := Tryd.func85.trans (congrArg some (by kernel_rfl))
 t0 := Tryd.underlying0
 a0 := Tryd.isAgg0
 z0 := Tryd.sizeOf0
 v0 := Tryd.zeroValue0
 t3 := Tryd.underlying3
 a3 := Tryd.isAgg3
 z3 := Tryd.sizeOf3
 v3 := Tryd.zeroValue3
 t4 := Tryd.underlying4
 a4 := Tryd.isAgg4
 z4 := Tryd.sizeOf4
 v4 := Tryd.zeroValue4
 t5 := Tryd.underlying5
 a5 := Tryd.isAgg5
 z5 := Tryd.sizeOf5
 v5 := Tryd.zeroValue5
 t9 := Tryd.underlying9
 a9 := Tryd.isAgg9
 z9 := Tryd.sizeOf9
 v9 := Tryd.zeroValue9
 t46 := Tryd.underlying45
 a46 := Tryd.isAgg45
 z46 := Tryd.sizeOf45
 v46 := Tryd.zeroValue45
 t51 := Tryd.underlying58
 a51 := Tryd.isAgg58
 z51 := Tryd.sizeOf58
 v51 := Tryd.zeroValue58
 t146 := Tryd.underlying101
 a146 := Tryd.isAgg101
 z146 := Tryd.sizeOf101
 v146 := Tryd.zeroValue101
 g1 := by kernel_rfl
def zvr : Go.Shelf.Ren := ⟨fun | 194 => 10 | n => n,
 fun | 0 => 0 | 3 => 3 | 4 => 4 | 9 => 9 | 31 => 22 | n => n,
 fun  | n => n⟩
theorem zwf : Lays.n194 Tryd.prog zvr where
 mixed := by kernel_rfl
 f194 := Tryd.func10.trans (congrArg some (by kernel_rfl))
 t0 := Tryd.underlying0
 a0 := Tryd.isAgg0
 z0 := Tryd.sizeOf0
 v0 := Tryd.zeroValue0
 t3 := Tryd.underlying3
 a3 := Tryd.isAgg3
 z3 := Tryd.sizeOf3
 v3 := Tryd.zeroValue3
 t4 := Tryd.underlying4
 a4 := Tryd.isAgg4
 z4 := Tryd.sizeOf4
 v4 := Tryd.zeroValue4
 t9 := Tryd.underlying9
 a9 := Tryd.isAgg9
 z9 := Tryd.sizeOf9
 v9 := Tryd.zeroValue9
 t31 := Tryd.underlying22
 a31 := Tryd.isAgg22
 z31 := Tryd.sizeOf22
 v31 := Tryd.zeroValue22
def zuv : Go.Shelf.Ren := ⟨fun | 6 => 19 | 8 => 27 | 9 => 26 | 19 => 42 | 20 => 43 | 21 => 33 | 22 => 34 | 23 => 35 | 24 => 36 | 25 => 37 | 26 => 38 | 27 => 39 | 28 => 40 | 29 => 41 | 31 => 53 | 32 => 54 | 36 => 52 | 37 => 55 | 38 => 56 | 39 => 57 | 41 => 66 | n => n,
 fun | 0 => 0 | 3 => 3 | 4 => 4 | 5 => 5 | 9 => 9 | 26 => 22 | 27 => 22 | 29 => 9 | 32 => 45 | 35 => 50 | 36 => 51 | 41 => 55 | 44 => 58 | 46 => 60 | 53 => 70 | 57 => 74 | 63 => 82 | 64 => 83 | n => n,
 fun  | n => n⟩
theorem ztj : SlLaysM.n6 Tryd.prog zuv where
 mixed := by kernel_rfl
 f6 := ⟨"slices.Sort[[]string,string]", by decide, Tryd.func19.trans (congrArg some (by kernel_rfl))⟩
 f8 := Tryd.func27.trans (congrArg some (by kernel_rfl))
 f9 := ⟨"slices.pdqsortOrdered[string]", by decide, Tryd.func26.trans (congrArg some (by kernel_rfl))⟩
 f19 := Tryd.func42.trans (congrArg some (by kernel_rfl))
 f20 := Tryd.func43.trans (congrArg some (by kernel_rfl))
 f21 := ⟨"slices.insertionSortOrdered[string]", by decide, Tryd.func33.trans (congrArg some (by kernel_rfl))⟩
 f22 := ⟨"slices.heapSortOrdered[string]", by decide, Tryd.func34.trans (congrArg some (by kernel_rfl))⟩
 f23 := ⟨"slices.breakPatternsOrdered[string]", by decide, Tryd.func35.trans (congrArg some (by kernel_rfl))⟩
 f24 := ⟨"slices.choosePivotOrdered[string]", by decide, Tryd.func36.trans (congrArg some (by kernel_rfl))⟩
 f25 := ⟨"slices.reverseRangeOrdered[string]", by decide, Tryd.func37.trans (congrArg some (by kernel_rfl))⟩
 f26 := ⟨"slices.partialInsertionSortOrdered[string]", by decide, Tryd.func38.trans (congrArg some (by kernel_rfl))⟩
 f27 := ⟨"cmp.Less[string]", by decide, Tryd.func39.trans (congrArg some (by kernel_rfl))⟩
 f28 := ⟨"slices.partitionEqualOrdered[string]", by decide, Tryd.func40.trans (congrArg some (by kernel_rfl))⟩
 f29 := ⟨"slices.partitionOrdered[string]", by decide, Tryd.func41.trans (congrArg some (by kernel_rfl))⟩
 f31 := Tryd.func53.trans (congrArg some (by kernel_rfl))
 f32 := Tryd.func54.trans (congrArg some (by kernel_rfl))
 f36 := ⟨"slices.siftDownOrdered[string]", by decide, Tryd.func52.trans (congrArg some (by kernel_rfl))⟩
 f37 := ⟨"slices.medianAdjacentOrdered[string]", by decide, Tryd.func55.trans (congrArg some (by kernel_rfl))⟩
 f38 := ⟨"slices.medianOrdered[string]", by decide, Tryd.func56.trans (congrArg some (by kernel_rfl))⟩
 f39 := ⟨"cmp.isNaN[string]", by decide, Tryd.func57.trans (congrArg some (by kernel_rfl))⟩
 f41 := ⟨"slices.order2Ordered[string]", by decide, Tryd.func66.trans (congrArg some (by kernel_rfl))⟩
 t0 := Tryd.underlying0
 a0 := Tryd.isAgg0
 z0 := Tryd.sizeOf0
 v0 := Tryd.zeroValue0
 t3 := Tryd.underlying3
 a3 := Tryd.isAgg3
 z3 := Tryd.sizeOf3
 v3 := Tryd.zeroValue3
 t4 := Tryd.underlying4
 a4 := Tryd.isAgg4
 z4 := Tryd.sizeOf4
 v4 := Tryd.zeroValue4
 t5 := Tryd.underlying5
 a5 := Tryd.isAgg5
 z5 := Tryd.sizeOf5
 v5 := Tryd.zeroValue5
 t9 := Tryd.underlying9
 a9 := Tryd.isAgg9
 z9 := Tryd.sizeOf9
 v9 := Tryd.zeroValue9
 t26 := Tryd.underlying22
 a26 := Tryd.isAgg22
 z26 := Tryd.sizeOf22
 v26 := Tryd.zeroValue22
 t27 := Tryd.underlying22
 a27 := Tryd.isAgg22
 z27 := Tryd.sizeOf22
 v27 := Tryd.zeroValue22
 t29 := Tryd.underlying9
 a29 := Tryd.isAgg9
 z29 := Tryd.sizeOf9
 v29 := Tryd.zeroValue9
 t32 := Tryd.underlying45
 a32 := Tryd.isAgg45
 z32 := Tryd.sizeOf45
 v32 := Tryd.zeroValue45
 t35 := Tryd.underlying50
 a35 := Tryd.isAgg50
 z35 := Tryd.sizeOf50
 v35 := Tryd.zeroValue50
 t36 := Tryd.underlying51
 a36 := Tryd.isAgg51
 z36 := Tryd.sizeOf51
 v36 := Tryd.zeroValue51
 t41 := Tryd.underlying55
 a41 := Tryd.isAgg55
 z41 := Tryd.sizeOf55
 v41 := Tryd.zeroValue55
 t44 := Tryd.underlying58
 a44 := Tryd.isAgg58
 z44 := Tryd.sizeOf58
 v44 := Tryd.zeroValue58
 t46 := Tryd.underlying60
 a46 := Tryd.isAgg60
 z46 := Tryd.sizeOf60
 v46 := Tryd.zeroValue60
 t53 := Tryd.underlying70
 a53 := Tryd.isAgg70
 z53 := Tryd.sizeOf70
 v53 := Tryd.zeroValue70
 t57 := Tryd.underlying74
 a57 := Tryd.isAgg74
 z57 := Tryd.sizeOf74
 v57 := Tryd.zeroValue74
 t63 := Tryd.underlying82
 a63 := Tryd.isAgg82
 z63 := Tryd.sizeOf82
 v63 := Tryd.zeroValue82
 t64 := Tryd.underlying83
 a64 := Tryd.isAgg83
 z64 := Tryd.sizeOf83
 v64 := Tryd.zeroValue83
end Go.Proofs.YtomgkgngbpnngaaDoor
set_option linter.unusedVariables false
set_option linter.unusedSimpArgs false
namespace Go.Proofs.YtomgkgngbpnngaaDoor
open Go.RowKit Go.Shelf Go.Proofs Go.Sort
attribute [local go_sem] Oper.semAt_some
def upto {α : Type} (f : Nat → α) (k : Nat) : List α := (List.range k).map f
theorem zr8 {α : Type} (f : Nat → α) (k : Nat) : upto f (k + 1) = upto f k ++ [f k] := by simp [upto, List.range_succ]
theorem zve {α : Type} (f : Nat → α) (k : Nat) : (upto f k).length = k := by simp [upto]
theorem z10o {α : Type} (zs : List α) (d : α) : upto (fun j => zs[j]?.getD d) zs.length = zs := by
 apply List.ext_getElem
 · simp [upto]
 · intro i h1 h2
   simp [upto, h2]
set_option maxRecDepth 100000 in
set_option maxHeartbeats 2000000 in
theorem zww (F : Fence) (n : Nat) (h7 : F.fn 20) (hro : F.round = none) (hn : 1 ≤ n) (l Bs Bo n₀ b off len cap : Nat) (zs : List (List UInt8)) (hreach : len * 16 ≤ 140737488351232) (hb : b < n₀) (J Jx : List (List UInt8) → World → Prop)
   (hY : ∀ pre x W, J pre W → pre.length < len → YieldAt F (n - 1) Tryd.prog l #[encStr x] W fun e W' =>
     (e = .returned (.bool true) ∧ J (pre ++ [x]) W' ∧ Below n₀ W W') ∨ (e = .returned (.bool false) ∧ Jx (pre ++ [x]) W'))
   (W : World) (hBs : W.cell? ⟨Bs, Bo, none⟩ = some (.slice (some ⟨b, off, none⟩) len cap)) (hc : ∀ j, j < len → W.cell? ⟨b, off + j, none⟩ = some (encStr (zs[j]?.getD []))) (h0 : J [] W) :
   CallsIn F n Tryd.prog 20 #[.func (.yield l) #[] #[], .pointer (some ⟨Bs, Bo, none⟩)] W fun e W' => (∃ v, e = .returned v) ∧
     ((∃ ys, ys = upto (fun j => zs[j]?.getD []) len ∧ J ys W') ∨ (∃ pre, (∃ k, k ≤ len ∧ pre = upto (fun j => zs[j]?.getD []) k) ∧ Jx pre W')) := by
 refine callsIn_of_wp Tryd.func20 rfl h7 ?_ hro
 simp only [Tryd.ntmps20, List.size_toArray, List.length_cons, List.length_nil, Nat.reduceAdd, Nat.reduceSub, Array.replicate_succ, Array.replicate_zero, List.push_toArray, List.append_toArray, List.nil_append, List.cons_append]
 gi_wp2
 gi_loopw [7] (fun i wr => ∃ k : Nat, k ≤ len ∧ i = .int .i64 k ∧ J (upto (fun j => zs[j]?.getD []) k) wr ∧ Below n₀ W wr)
   (fun i _ => len - (intOf i).toNat)
 case atStart => exact ⟨0, Nat.zero_le _, rfl, h0, Below.refl _ _⟩
 case round =>
   obtain ⟨k, hk, rfl, hJs, hnx⟩ := hrel
   have hcx : k < len → wr.cell? ⟨b, off + k, none⟩ = some (encStr (zs[k]?.getD [])) := fun h => (hnx.cell (p := ⟨b, off + k, none⟩) hb).trans (hc k h)
   by_cases hlt : k < len
   · obtain ⟨fn, tmps, assign, body, hy, hR⟩ := hY _ (zs[k]?.getD []) wr hJs (by rw [zve]; exact hlt)
     have hcx' := hcx hlt
     gi_wp2
     refine hR.mono ?_
     rintro e W3 (⟨rfl, hJ3, hk3⟩ | ⟨rfl, hJx3⟩)
     · gi_wp2
       go_roundw
       case rel => exact ⟨k + 1, by omega, by simp, by rw [zr8]; exact hJ3, hnx.trans hk3⟩
       case measure => simp [intOf]; omega
     · gi_wp2
       refine bodyPost_ret (results_none rfl _ _ _) rfl ?_
       exact ⟨⟨_, rfl⟩, .inr ⟨_, ⟨k + 1, by omega, (zr8 _ _).symm⟩, hJx3⟩⟩
   · obtain rfl : k = len := by omega
     gi_wp2
     go_end0
     exact ⟨⟨_, rfl⟩, .inl ⟨_, rfl, hJs⟩⟩
theorem zyv {α : Type} (zs : List α) (d : α) {k : Nat} (hk : k ≤ zs.length) : upto (fun j => zs[j]?.getD d) k = zs.take k := by
 apply List.ext_getElem
 · simp [upto, hk]
 · intro i h1 h2
   have : i < zs.length := by simp [upto] at h1; omega
   simp [upto, this]
def TextsAt (n₀ : Nat) (W : World) (sv : Value) (zs : List (List UInt8)) : Prop :=
 (∃ a c, sv = .slice a 0 c ∧ zs = []) ∨ ∃ b off cap, sv = .slice (some ⟨b, off, none⟩) zs.length cap ∧ b < n₀ ∧ ∀ j, j < zs.length → W.cell? ⟨b, off + j, none⟩ = some (encStr (zs[j]?.getD []))
theorem TextsAt.below {n₀ : Nat} {A B : World} (h : Below n₀ A B) {sv : Value} {zs : List (List UInt8)} : TextsAt n₀ A sv zs → TextsAt n₀ B sv zs
 | .inl e => .inl e
 | .inr ⟨b, off, cap, e, hb, hc⟩ => .inr ⟨b, off, cap, e, hb, fun j hj => (h.cell (p := ⟨b, off + j, none⟩) hb).trans (hc j hj)⟩
set_option maxRecDepth 100000 in
set_option maxHeartbeats 1000000 in
theorem zr1 (F : Fence) (n : Nat) (h7 : F.fn 20) (hro : F.round = none) (l Bs Bo : Nat) (sa : Option Addr) (sc : Nat) (J : List (List UInt8) → World → Prop) (W : World) (hBs : W.cell? ⟨Bs, Bo, none⟩ = some (.slice sa 0 sc)) (h0 : J [] W) :
   CallsIn F n Tryd.prog 20 #[.func (.yield l) #[] #[], .pointer (some ⟨Bs, Bo, none⟩)] W fun e W' => (∃ v, e = .returned v) ∧ J [] W' := by
 refine callsIn_of_wp Tryd.func20 rfl h7 ?_ hro
 simp only [Tryd.ntmps20, List.size_toArray, List.length_cons, List.length_nil, Nat.reduceAdd, Nat.reduceSub, Array.replicate_succ, Array.replicate_zero, List.push_toArray, List.append_toArray, List.nil_append, List.cons_append]
 gi_wp2
 gi_loopw [7] (fun i wr => i = .int .i64 0 ∧ J [] wr) (fun _ _ => 0)
 case atStart => exact ⟨rfl, h0⟩
 case round =>
   obtain ⟨rfl, hJs⟩ := hrel
   gi_wp2
   go_end0
   exact ⟨⟨_, rfl⟩, hJs⟩
theorem zu1 (F : Fence) (n : Nat) (h7 : F.fn 20) (hro : F.round = none) (hn : 1 ≤ n) (Bs Bo n₀ : Nat) (sv : Value) (zs : List (List UInt8)) (hreach : zs.length * 16 ≤ 140737488351232) (w : World) (hBs : Bs < w.heap.size) (hn₀ : n₀ ≤ w.heap.size)
   (hc : w.cell? ⟨Bs, Bo, none⟩ = some sv) (hI : TextsAt n₀ w sv zs) :
   SeqStopsK F n Tryd.prog 20 #[.pointer (some ⟨Bs, Bo, none⟩)] (fun x : List UInt8 => #[encStr x]) (Below n₀) (fun ys => ys = zs) (fun pre => pre <+: zs) zs.length w := fun l J Jx W hW _ _ hY h0 => by
 have hc' := (hW.cell (p := ⟨Bs, Bo, none⟩) hBs).trans hc
 rcases hI.below (hW.mono hn₀) with ⟨a, c, rfl, rfl⟩ | ⟨b, off, cap, rfl, hb, hcs⟩
 · exact (zr1 F n h7 hro l Bs Bo a c J W hc' h0).mono fun e W' ⟨he, hj⟩ => ⟨he, .inl ⟨_, rfl, hj⟩⟩
 · refine (zww F n h7 hro hn l Bs Bo n₀ b off zs.length cap zs hreach hb J Jx hY W hc' hcs h0).mono ?_
   rintro e W' ⟨he, ⟨ys, rfl, hj⟩ | ⟨pre, ⟨k, hk, rfl⟩, hj⟩⟩
   · exact ⟨he, .inl ⟨_, z10o zs _, hj⟩⟩
   · exact ⟨he, .inr ⟨_, by rw [zyv zs _ hk]; exact List.take_prefix _ _, hj⟩⟩
theorem info9 : (Tryd.prog.info? 9).map (fun i => (i.zero, i.size, i.bytes)) = some (some (.string ⟨#[]⟩), 1, 16) := by kernel_rfl
set_option maxRecDepth 100000 in
set_option maxHeartbeats 4000000 in
theorem ztk (F : Fence) (n : Nat) (h3 : F.fn 25) (h5 : F.fn 20) (hro : F.round = none) (hn : 2 ≤ n) (Bs Bo : Nat) (sv : Value) (zs : List (List UInt8)) (hlen : zs.length ≤ maxLen) (hbytes : zs.length * 16 ≤ 140737488351232) (w : World) (hBs : Bs < w.heap.size)
   (hc : w.cell? ⟨Bs, Bo, none⟩ = some sv) (hI : TextsAt w.heap.size w sv zs) :
   CallsIn F n Tryd.prog 25 #[.slice none 0 0, .func (.func 20) #[] #[.pointer (some ⟨Bs, Bo, none⟩)]] w fun e W' => ∃ v, e = .returned v ∧ W'.ownsRow w.heap.size 9 1 v zs.length (zs.map encStr) ∧ Below w.heap.size w W' := by
 have h1 : 1 ≤ n := by omega
 obtain ⟨i0, hi, hz0, hz1, hz2⟩ := info_parts info9
 refine callsIn_of_wp_marks Tryd.func25 rfl h3 ?_ hro
 simp only [Tryd.ntmps25, List.size_toArray, List.length_cons, List.length_nil, Nat.reduceAdd, Nat.reduceSub, Array.replicate_succ, Array.replicate_zero, List.push_toArray, List.append_toArray, List.nil_append, List.cons_append]
 gi_wp2
 have bO := Boxed.new w 22 (.slice none 0 0)
 have hB0 : Below w.heap.size w (w.alloc (.cells #[.slice none 0 0] 22)) := (Below.refl _ w).alloc (Nat.le_refl _) _
 refine wpIn_rangeFunc_ownG hro h1 (gf := 20) (lb := #[.pointer (some ⟨Bs, Bo, none⟩)]) rfl h5 (enters_of Tryd.func20 (by kernel_rfl) rfl)
   (zu1 F (n - 1) h5 hro (by omega) Bs Bo w.heap.size sv zs hbytes _ (by simp; omega) (by simp) ((hB0.cell (p := ⟨Bs, Bo, none⟩) hBs).trans hc) (hI.below hB0)) belowK_t (belowK_b (by simp)) (Below.refl _ _) (fun _ => rfl)
   (fun pre W => (∃ v, Boxed W w.heap.size 22 v ∧ W.ownsRow w.heap.size 9 1 v pre.length (pre.map encStr) ∧ True) ∧ Below w.heap.size w W)
   (fun _ _ _ => False)
   (OwnFrom.and (Own.from (holdsRow_own w.heap.size w.heap.size 22 9 1 (fun pre => List.length pre) (fun pre => pre.map encStr) (fun _ _ => True)) _) (ownFrom_below (Nat.le_refl _) (by simp)))
   (fun _ _ _ _ _ hs _ _ => hs)
   ⟨⟨_, bO, World.ownsRow_nil _ _ _ _, trivial⟩, hB0⟩
   (fun x => { tmps := #[.slice none 0 0, .func (.func 20) #[] #[.pointer (some ⟨Bs, Bo, none⟩)], .pointer (some ⟨w.heap.size, 0, none⟩), undef, .slice none 0 0, encStr x, .func (.func 20) #[] #[.pointer (some ⟨Bs, Bo, none⟩)], encStr x, undef, undef, undef, undef, undef], defers := [] }) ?assign ?body ?done ?stop
 case assign =>
   intro l x W K hK
   gi_wp2
   exact hK
 case body =>
   rintro l pre x W ⟨⟨v, hv, hrow, _⟩, hB⟩ hlt
   have hc := hv.cell
   gi_wp2_with (gi_at_builtin; refine wpListIn_append_own _ rfl _ _ 22 rfl w.heap.size 9 i0 (.string ⟨#[]⟩) 1 16 Tryd.underlying22 hi hz0 hz1 hz2 rfl (by decide) _ _ _ rfl (hrow.alloc _) ⟨W.heap.size, 0, none⟩ 1 1 [encStr x] rfl rfl (cell_one_new _ _ _) (by simp [Value.oneCell', encStr]) (by omega) (by omega) (by have := hB.size; simp; omega) ?_; intro v' w1 hown' hgrow _; obtain ⟨g', cap', rfl⟩ := ownsRow_succ hown'; obtain ⟨hv1, hv2, hr2, hk2, hb2⟩ := hv.appended (by decide) hrow hB.size (Nat.le_refl _) hown' hgrow; have hc1 := hv1.cell; have hf1 := hv1.frozen)
   exact ⟨hk2.from _, hb2, ⟨_, hv2, by simpa using hr2, trivial⟩, hB.trans hb2⟩
 case done =>
   rintro D ys W hD rfl ⟨⟨v, hv, hrow, _⟩, hB⟩ hK
   have hc := hv.cell
   gi_wp2
   refine ⟨by simp, .inl ⟨_, _, rfl, run_takeDeferred hK, ?_⟩⟩
   exact ⟨_, results_tmp rfl _ _ _, v, rfl, ownsRow_putObj hrow _ hK rfl, hB.trans (belowK_b (w := w) (Nat.le_refl _) W D _ _ (by simp at hD; omega) hK rfl rfl)⟩
 case stop =>
   rintro D c pre W _ _ h _
   exact h.elim
end Go.Proofs.YtomgkgngbpnngaaDoor
set_option linter.unusedVariables false
set_option linter.unusedSimpArgs false
namespace Go.Proofs.YtomgkgngbpnngaaDoor
open Go.RowKit Go.Shelf Go.Proofs Go.Sort
attribute [local go_sem] Oper.semAt_some
set_option maxRecDepth 100000 in
set_option maxHeartbeats 4000000 in
theorem zx0 (F : Fence) (n : Nat) (h2 : F.fn 18) (h3 : F.fn 25) (h5 : F.fn 20) (hro : F.round = none) (hn : 3 ≤ n) (Bs Bo : Nat) (sv : Value) (zs : List (List UInt8)) (hlen : zs.length ≤ maxLen) (hbytes : zs.length * 16 ≤ 140737488351232) (w : World) (hBs : Bs < w.heap.size)
   (hc : w.cell? ⟨Bs, Bo, none⟩ = some sv) (hI : TextsAt w.heap.size w sv zs) :
   CallsIn F n Tryd.prog 18 #[.func (.func 20) #[] #[.pointer (some ⟨Bs, Bo, none⟩)]] w fun e W' => ∃ v, e = .returned v ∧ W'.ownsRow w.heap.size 9 1 v zs.length (zs.map encStr) ∧ Below w.heap.size w W' := by
 have h1 : 1 ≤ n := by omega
 refine callsIn_of_wp Tryd.func18 rfl h2 ?_ hro
 simp only [Tryd.ntmps18, List.size_toArray, List.length_cons, List.length_nil, Nat.reduceAdd, Nat.reduceSub, Array.replicate_succ, Array.replicate_zero, List.push_toArray, List.append_toArray, List.nil_append, List.cons_append]
 gi_wp2_with (gi_at_call 25; refine (ztk F (n - 1) h3 h5 hro (by omega) Bs Bo sv zs hlen hbytes _ hBs hc hI).mono ?_; rintro e w' ⟨v, rfl, hrow, hb⟩)
 go_ret
 exact ⟨v, rfl, hrow, hb⟩
set_option maxRecDepth 100000 in
set_option maxHeartbeats 4000000 in
theorem ztp (Bs Bo : Nat) (sv : Value) (zs : List (List UInt8)) (hlen : zs.length * 16 ≤ 140737488351232) (w : World) (hBs : Bs < w.heap.size)
   (hc : w.cell? ⟨Bs, Bo, none⟩ = some sv) (hI : TextsAt w.heap.size w sv zs) :
   Calls Tryd.prog 11 #[.func (.func 20) #[] #[.pointer (some ⟨Bs, Bo, none⟩)]] w fun e W' => ∃ v, e = .returned v ∧ W'.ownsRow w.heap.size 9 1 v zs.length ((zs.mergeSort (fun x y => decide (x ≤ y))).map encStr) ∧ Below w.heap.size w W' := by
 have hmax : zs.length ≤ maxLen := by unfold maxLen; omega
 refine (callsIn_wide (n := 9)).1 ?_
 have h1 : 1 ≤ 9 := by omega
 have hro : Fence.wide.round = none := rfl
 have hF : ∀ f, Fence.wide.fn f := fun _ => trivial
 refine callsIn_of_wp Tryd.func11 rfl (hF _) ?_ hro
 simp only [Tryd.ntmps11, List.size_toArray, List.length_cons, List.length_nil, Nat.reduceAdd, Nat.reduceSub, Array.replicate_succ, Array.replicate_zero, List.push_toArray, List.append_toArray, List.nil_append, List.cons_append]
 gi_wp2_with (gi_at_call 18; refine (zx0 Fence.wide 8 (hF _) (hF _) (hF _) hro (by omega) Bs Bo sv zs hmax hlen _ hBs hc hI).mono ?_; rintro e W ⟨v, rfl, hrow, hb⟩)
 rcases hrow.2 with ⟨rfl, hz⟩ | ⟨gb, cap, cur, rfl, hbase, hgb, r1, r2, r3, r4⟩
 · have hss : zs = [] := List.eq_nil_of_length_eq_zero hz
   subst hss
   gi_wp2_with (gi_at_call 19; refine CallsIn.mono (callsIn_wide.2 (AnyM.slices_Sort_string_none ztj none 0 W)) ?_; rintro e w' ⟨rfl, rfl⟩)
   go_ret
   exact ⟨.slice none 0 0, rfl, by simpa using hrow, hb⟩
 · have hH : Holds encStr W gb 0 zs.toArray := holds_of_block hgb (by simpa using r4)
   have hgl : gb < W.heap.size := (Array.getElem?_eq_some_iff.1 hgb).1
   have hsz : zs.length < 4611686018427387904 := by omega
   have cS := AnyM.slices_Sort_string ztj gb 0 cap zs W hH hgl hsz
   gi_wp2_with (gi_at_call 19; refine CallsIn.mono (callsIn_wide.2 cS) ?_; rintro e w' ⟨rfl, nn, os, rfl⟩)
   go_ret
   exact ⟨_, rfl, ownsRow_sorted (by simp) hbase hgb r1 r2 r3, hb.grown (grownBy_sorted _) hb.size (fun j hj => by cases hj; exact hbase)⟩
end Go.Proofs.YtomgkgngbpnngaaDoor
set_option linter.unusedVariables false
set_option linter.unusedSimpArgs false
namespace Go.Proofs.YtomgkgngbpnngaaDoor
open Go.Shelf Go.Proofs Go.RowKit Go.Sort Go.Lib
theorem zvc (w : World) (T : TypeId) (nd : Nat) (hs : nd ≤ 24) : Holds (fun (b : UInt8) => Value.int .u8 (b.toNat : Int)) (w.alloc (.cells zeros24 T)) w.heap.size 0 (Array.replicate nd (0 : UInt8)) := fun j hj => by
 have hj' : j < nd := by simpa using hj
 refine ⟨?_, World.frozen?_alloc_new _ _ _ _⟩
 rw [World.cell?_alloc_new, zeros24_at _ (by omega), getElem!_pos _ j hj]
 simp
theorem z12f (w : World) (o : Obj) (dk : Array UInt8) (k : Nat) : ∃ os, (putRow (fun (b : UInt8) => Value.int .u8 (b.toNat : Int)) (w.alloc o) w.heap.size 0 dk).drewN k = grow (w.drewN k) os := by
 rw [alloc_eq_grow]
 obtain ⟨os', _, e⟩ := putRow_grow_new (fun (b : UInt8) => Value.int .u8 (b.toNat : Int)) w #[o] w.heap.size 0 dk (Nat.le_refl _)
 exact ⟨os', by rw [e]; rfl⟩
theorem zxu (w : World) (k : Nat) (os : Array Obj) : Below w.heap.size w (grow (w.drewN k) os) :=
 ⟨by simp [grow, World.drewN], by simp [grow, World.drewN], by simp [grow, World.drewN], by simp [grow, World.drewN], fun i hi => by simp [grow, World.drewN, Array.getElem?_append_left hi]⟩
set_option maxHeartbeats 6400000 in
set_option maxRecDepth 100000 in
theorem fuint (u : Nat) (hu64 : u < 18446744073709551616) (w : World) (htab : Lib.TabIs Tryd.prog w "internal/strconv.uint64pow10" .u64 Lib.pow10Tab) :
   Calls Tryd.prog 65 #[.int .u64 u, .int .i64 10] w fun e w' => e = .returned (.string ⟨(Lib.decDigits u).toArray⟩) ∧ Below w.heap.size w w' := by
 by_cases hs : u < 100
 · go_enter Tryd.func65, Tryd.ntmps65
   go_wp2_with (go_at_call 80; refine (Any.internal_strconv_small z14u u hs _).mono ?_; rintro e w' ⟨rfl, rfl⟩)
   go_ret
   exact ⟨rfl, Below.refl _ _⟩
 · have hu1 : 1 ≤ u := by omega
   have hnd20 : Lib.nDigits u ≤ 20 := by have := Lib.numDigits_eq u hu1 hu64; split at this <;> omega
   have hal : Tryd.prog.arrayLen 93 = 24 := by simp [Program.arrayLen, Tryd.underlying93]
   have hsl1 : ∀ W, (Instr.sliceAt 93 (.pointer (some ⟨w.heap.size, 0, none⟩)) none (some (.int .i64 (Lib.nDigits u : Int))) none).run Tryd.prog W = .ok (.slice (some ⟨w.heap.size, 0, none⟩) (Lib.nDigits u) 24) W := fun W => by
     rw [run_sliceAt_array_h W 93 ⟨w.heap.size, 0, none⟩ (by simp [Program.arrayLen, Program.elem, Tryd.underlying93]) .i64 (Lib.nDigits u : Int) (by omega) (by rw [hal]; omega)]
     go_simp
     try omega
   have hH0 := zvc w 93 (Lib.nDigits u) (by omega)
   have hfmt := Any.internal_strconv_formatBase10 z13q w.heap.size 0 24 u (Array.replicate (Lib.nDigits u) 0) (w.alloc (.cells Lib.zeros24 93)) hH0 (by rw [Array.size_replicate]; exact Lib.lt_pow_nDigits u) hu64 (by rw [Array.size_replicate]; omega)
   rw [Array.size_replicate] at hfmt
   have HH0 := Lib.hid hH0
   clear hH0 hal
   go_enter Tryd.func65, Tryd.ntmps65
   go_wp2_with (first
     | (go_at_call 81; refine (Any.internal_strconv_numDigits z11g u hu1 hu64 _ (Lib.tabIs_alloc htab _)).mono ?_; rintro e w' ⟨rfl, rfl⟩))
   go_at_call 82
   refine hfmt.mono ?_
   rintro e w' ⟨rfl, k, v', dk, rfl, hF⟩
   have hcv : (convert 88 9 (.slice (some ⟨w.heap.size, 0, none⟩) (Lib.nDigits u) 24)).run Tryd.prog ((putRow (fun (b : UInt8) => Value.int .u8 (b.toNat : Int)) (w.alloc (.cells Lib.zeros24 93)) w.heap.size 0 dk).drewN k) = .ok (.string ⟨(Lib.decDigits u).toArray⟩) ((putRow (fun (b : UInt8) => Value.int .u8 (b.toNat : Int)) (w.alloc (.cells Lib.zeros24 93)) w.heap.size 0 dk).drewN k) := by
     have h := run_convert_bytes_back (P := Tryd.prog) ((putRow (fun (b : UInt8) => Value.int .u8 (b.toNat : Int)) (w.alloc (.cells Lib.zeros24 93)) w.heap.size 0 dk).drewN k) 88 9 5 ⟨w.heap.size, 0, none⟩ 24 (Lib.decDigits u) Tryd.underlying88 Tryd.underlying5 Tryd.underlying9 (fun j hj => by
       rw [Lib.row_is_numeral hF j hj, Lib.add_plain, World.cell?_drewN]
       exact cell?_putRow (fun (b : UInt8) => Value.int .u8 (b.toNat : Int)) _ w.heap.size 0 _ dk HH0.out (by rw [hF.size, Array.size_replicate]) j (by rw [hF.size]; rw [Lib.decDigits_length] at hj; exact hj))
     rw [Lib.decDigits_length] at h
     exact h
   go_wp2
   go_ret
   obtain ⟨os, eo⟩ := z12f w (.cells Lib.zeros24 93) dk k
   refine ⟨rfl, ?_⟩
   have := zxu w k os
   rw [← eo] at this
   exact this
end Go.Proofs.YtomgkgngbpnngaaDoor
set_option linter.unusedVariables false
set_option linter.unusedSimpArgs false
namespace Go.Proofs.YtomgkgngbpnngaaDoor
open Go.Shelf Go.Proofs Go.RowKit Go.Sort Go.Lib Go.Ab
def zfn (s : ByteArray) : Bool := match Lib.parseUintB 32 s.data.toList with
 | .ok u => Lib.decDigits u == s.data.toList
 | _ => false
theorem zx9 {w w' : World} (h : Below w.heap.size w w') (hs : gb ≤ w.heap.size) (g : Glob w) : Glob w' := g.stay fun k hk => h.block k (Nat.lt_of_lt_of_le hk hs)
theorem z15r (u : Nat) (hu64 : u < 18446744073709551616) (w : World) (htab : Lib.TabIs Tryd.prog w "internal/strconv.uint64pow10" .u64 Lib.pow10Tab) :
   Calls Tryd.prog 51 #[.int .u64 u, .int .i64 10] w fun e w' => e = .returned (.string ⟨(Lib.decDigits u).toArray⟩) ∧ Below w.heap.size w w' := by
 go_enter Tryd.func51, Tryd.ntmps51
 go_wp2_with (go_at_call 65; refine (fuint u hu64 _ htab).mono ?_; rintro e w' ⟨rfl, hb⟩)
 go_ret
 exact ⟨rfl, hb⟩
set_option maxHeartbeats 6400000 in
set_option maxRecDepth 100000 in
theorem zsv (s : ByteArray) (hlim : s.size ≤ 281474976710656) (w : World) (hs : gb ≤ w.heap.size) (g : Glob w) :
   Calls Tryd.prog 32 #[.string s] w fun e w' => e = .returned (.bool (zfn s)) ∧ Below w.heap.size w w' := by
 obtain ⟨htab, ⟨tp, p, hsy⟩, tp2, p2, hra⟩ := id g
 unfold zfn
 cases hp : Lib.parseUintB 32 s.data.toList
 · rename_i u
   have hu := Lib.parseUintB_le hp
   have key : ∀ w', Below w.heap.size w w' → Lib.TabIs Tryd.prog w' "internal/strconv.uint64pow10" .u64 Lib.pow10Tab := fun w' hb => (zx9 hb hs g).1
   go_enter Tryd.func32, Tryd.ntmps32
   go_wp2_with (first
     | (go_at_call 50; refine (Any.strconv_ParseUint_10_at32_ok znw s (by omega) u hp _).mono ?_; rintro e w' ⟨rfl, hw⟩; have hb : Below w.heap.size w w' := hw.elim (fun h => h ▸ Below.refl _ _) (fun h => h ▸ Lib.bytesWorld_below _ _ _); clear hw)
     | (go_at_call 51; refine (z15r u (by omega) _ (key _ hb)).mono ?_; rintro e w'' ⟨rfl, hb2⟩))
   go_ret
   exact ⟨by simp [ByteArray.toList_eq], hb.trans ⟨hb2.os, hb2.tape, hb2.output, hb2.size, fun k hk => hb2.block k (Nat.lt_of_lt_of_le hk hb.size)⟩⟩
 · go_enter Tryd.func32, Tryd.ntmps32
   go_wp2_with (go_at_call 50; refine (Any.strconv_ParseUint_10_at32_syntax_var znw s hlim hp tp p _ hsy).mono ?_; rintro e w' ⟨N, rfl, hN, hc, hb⟩)
   go_ret
   exact ⟨rfl, hb⟩
 · go_enter Tryd.func32, Tryd.ntmps32
   go_wp2_with (go_at_call 50; refine (Any.strconv_ParseUint_10_at32_range_var znw s hlim hp tp2 p2 _ hra).mono ?_; rintro e w' ⟨N, rfl, hN, hc, hb⟩)
   go_ret
   exact ⟨rfl, hb⟩
end Go.Proofs.YtomgkgngbpnngaaDoor