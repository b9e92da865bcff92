/-
  Shelf, Pq, Ta, Tc, Td, Te, Blk, in one.
-/
import Derived.Ground.NamesProg
import Derived.Ground.SlgnProg
import Derived.Ground.MpProg
import Derived.Shelf.Lays
import Derived.Shelf.LaysM
import Derived.Shelf.SlLaysN
import Derived.Shelf.Pu.Lays
import Derived.Test.YtngklbnodknadaaGreatDoorProg
import Derived.Test.YtngklbnodknadaaGreatDoorMal
import Derived.Test.YtngklbnodknadaaGreatDoorMar
import Derived.Shelf.Pu.ToError
import Derived.Shelf.Pu.ToErrorRange
import Derived.Lib.Fields
import Derived.Test.YtngklbnodknadaaGreatDoorMak
import Derived.Shelf.Small.Strs
import Derived.Laws.BytesString
import Derived.Laws.IdiomStrings
import Derived.Lib.AtoiErrMem
import Derived.Shelf.Strconv.Atoi
import Derived.Test.YtngklbnodknadaaGreatDoorMaa
import Derived.RangeFuncBox
import Derived.RangeFuncNested
section
namespace Go.Proofs
open Go.Shelf
def Tryz.hasP_ren : Go.Shelf.Ren := ⟨fun | 99 => 28 | 206 => 42 | n => n, fun | 9 => 9 | 4 => 4 | 3 => 3 | n => n, fun | n => n⟩
theorem Tryz.hasP : Go.Proofs.Lays.n99 Tryz.prog Tryz.hasP_ren := {
  mixed := by kernel_rfl
  f99 := Tryz.func28.trans (congrArg some (by kernel_rfl))
  f206 := Tryz.func42.trans (congrArg some (by kernel_rfl))
  t3 := Tryz.underlying3
  a3 := Tryz.isAgg3
  z3 := Tryz.sizeOf3
  v3 := Tryz.zeroValue3
  t4 := Tryz.underlying4
  a4 := Tryz.isAgg4
  z4 := Tryz.sizeOf4
  v4 := Tryz.zeroValue4
  t9 := Tryz.underlying9
  a9 := Tryz.isAgg9
  z9 := Tryz.sizeOf9
  v9 := Tryz.zeroValue9 }
def Tryz.hasS_ren : Go.Shelf.Ren := ⟨fun | 32 => 22 | 30 => 35 | n => n, fun | 25 => 44 | 26 => 9 | 4 => 4 | 3 => 3 | 0 => 0 | n => n, fun | n => n⟩
theorem Tryz.hasS : Go.Proofs.SlLaysN.n32 Tryz.prog Tryz.hasS_ren := {
  mixed := by kernel_rfl
  f30 := ⟨Tryz.f35.name, by decide, Tryz.func35.trans (congrArg some (by kernel_rfl))⟩
  f32 := ⟨Tryz.f22.name, by decide, Tryz.func22.trans (congrArg some (by kernel_rfl))⟩
  t0 := Tryz.underlying0
  a0 := Tryz.isAgg0
  z0 := Tryz.sizeOf0
  v0 := Tryz.zeroValue0
  t3 := Tryz.underlying3
  a3 := Tryz.isAgg3
  z3 := Tryz.sizeOf3
  v3 := Tryz.zeroValue3
  t4 := Tryz.underlying4
  a4 := Tryz.isAgg4
  z4 := Tryz.sizeOf4
  v4 := Tryz.zeroValue4
  t25 := Tryz.underlying44
  a25 := Tryz.isAgg44
  z25 := Tryz.sizeOf44
  v25 := Tryz.zeroValue44
  t26 := Tryz.underlying9
  a26 := Tryz.isAgg9
  z26 := Tryz.sizeOf9
  v26 := Tryz.zeroValue9 }
def Tryz.fields_ren : Go.Shelf.Ren := ⟨fun | 157 => 27 | 229 => 40 | 199 => 41 | 261 => 51 | 311 => 67 | 312 => 68 | n => n, fun | 9 => 9 | 31 => 44 | 3 => 3 | 5 => 5 | 4 => 4 | 119 => 77 | 0 => 0 | 40 => 79 | 152 => 83 | 21 => 21 | 154 => 85 | 51 => 50 | 141 => 87 | 196 => 115 | 193 => 112 | 198 => 118 | 49 => 116 | 194 => 113 | 201 => 121 | 226 => 149 | 46 => 89 | 227 => 150 | n => n, fun | 0 => 0 | 6 => 3 | n => n⟩
theorem Tryz.fields : Go.Proofs.LaysM.n157 Tryz.prog Tryz.fields_ren := {
  mixed := by kernel_rfl
  f157 := Tryz.func27.trans (congrArg some (by kernel_rfl))
  f199 := Tryz.func41.trans (congrArg some (by kernel_rfl))
  f229 := Tryz.func40.trans (congrArg some (by kernel_rfl))
  f261 := Tryz.func51.trans (congrArg some (by kernel_rfl))
  f311 := Tryz.func67.trans (congrArg some (by kernel_rfl))
  f312 := Tryz.func68.trans (congrArg some (by kernel_rfl))
  t0 := Tryz.underlying0
  a0 := Tryz.isAgg0
  z0 := Tryz.sizeOf0
  v0 := Tryz.zeroValue0
  t3 := Tryz.underlying3
  a3 := Tryz.isAgg3
  z3 := Tryz.sizeOf3
  v3 := Tryz.zeroValue3
  t4 := Tryz.underlying4
  a4 := Tryz.isAgg4
  z4 := Tryz.sizeOf4
  v4 := Tryz.zeroValue4
  t5 := Tryz.underlying5
  a5 := Tryz.isAgg5
  z5 := Tryz.sizeOf5
  v5 := Tryz.zeroValue5
  t9 := Tryz.underlying9
  a9 := Tryz.isAgg9
  z9 := Tryz.sizeOf9
  v9 := Tryz.zeroValue9
  t21 := Tryz.underlying21
  a21 := Tryz.isAgg21
  z21 := Tryz.sizeOf21
  v21 := Tryz.zeroValue21
  t31 := Tryz.underlying44
  a31 := Tryz.isAgg44
  z31 := Tryz.sizeOf44
  v31 := Tryz.zeroValue44
  t40 := Tryz.underlying79
  a40 := Tryz.isAgg79
  z40 := Tryz.sizeOf79
  v40 := Tryz.zeroValue79
  t46 := Tryz.underlying89
  a46 := Tryz.isAgg89
  z46 := Tryz.sizeOf89
  v46 := Tryz.zeroValue89
  t49 := Tryz.underlying116
  a49 := Tryz.isAgg116
  z49 := Tryz.sizeOf116
  v49 := Tryz.zeroValue116
  t51 := Tryz.underlying50
  a51 := Tryz.isAgg50
  z51 := Tryz.sizeOf50
  v51 := Tryz.zeroValue50
  t119 := Tryz.underlying77
  a119 := Tryz.isAgg77
  z119 := Tryz.sizeOf77
  t141 := Tryz.underlying87
  a141 := Tryz.isAgg87
  z141 := Tryz.sizeOf87
  v141 := Tryz.zeroValue87
  t152 := Tryz.underlying83
  a152 := Tryz.isAgg83
  z152 := Tryz.sizeOf83
  v152 := Tryz.zeroValue83
  t154 := Tryz.underlying85
  a154 := Tryz.isAgg85
  z154 := Tryz.sizeOf85
  v154 := Tryz.zeroValue85
  t193 := Tryz.underlying112
  a193 := Tryz.isAgg112
  z193 := Tryz.sizeOf112
  v193 := Tryz.zeroValue112
  t194 := Tryz.underlying113
  a194 := Tryz.isAgg113
  z194 := Tryz.sizeOf113
  v194 := Tryz.zeroValue113
  t196 := Tryz.underlying115
  a196 := Tryz.isAgg115
  z196 := Tryz.sizeOf115
  v196 := Tryz.zeroValue115
  t198 := Tryz.underlying118
  a198 := Tryz.isAgg118
  z198 := Tryz.sizeOf118
  v198 := Tryz.zeroValue118
  t201 := Tryz.underlying121
  a201 := Tryz.isAgg121
  z201 := Tryz.sizeOf121
  v201 := Tryz.zeroValue121
  t226 := Tryz.underlying149
  a226 := Tryz.isAgg149
  z226 := Tryz.sizeOf149
  v226 := Tryz.zeroValue149
  t227 := Tryz.underlying150
  a227 := Tryz.isAgg150
  z227 := Tryz.sizeOf150
  v227 := Tryz.zeroValue150
  g0 := by kernel_rfl
  g6 := by kernel_rfl
  i0 := by kernel_rfl
  i3 := by kernel_rfl
  i4 := by kernel_rfl
  i5 := by kernel_rfl
  i9 := by kernel_rfl
  i21 := by kernel_rfl
  i31 := by kernel_rfl
  i40 := by kernel_rfl
  i46 := by kernel_rfl
  i49 := by kernel_rfl
  i51 := by kernel_rfl
  i141 := by kernel_rfl
  i152 := by kernel_rfl
  i154 := by kernel_rfl
  i193 := by kernel_rfl
  i194 := by kernel_rfl
  i196 := by kernel_rfl
  i198 := by kernel_rfl
  i201 := by kernel_rfl
  i226 := by kernel_rfl
  i227 := by kernel_rfl
  m0 := by kernel_rfl
  m6 := by kernel_rfl }
def Tryz.atoi_ren : Go.Shelf.Ren := ⟨fun | 172 => 38 | 244 => 50 | 245 => 49 | 247 => 66 | 279 => 62 | 280 => 63 | 281 => 64 | 282 => 65 | 287 => 81 | 316 => 78 | 171 => 80 | 205 => 79 | 321 => 105 | 322 => 106 | 243 => 104 | 246 => 128 | 283 => 133 | 284 => 134 | 285 => 135 | 286 => 136 | 129 => 117 | 317 => 139 | 318 => 121 | 319 => 140 | 320 => 141 | 337 => 142 | 338 => 143 | n => n, fun | 9 => 9 | 3 => 3 | 75 => 67 | 76 => 72 | 4 => 4 | 5 => 5 | 167 => 106 | 37 => 74 | 0 => 0 | 85 => 110 | 2 => 2 | 168 => 107 | 53 => 70 | 175 => 147 | 46 => 89 | 210 => 144 | 127 => 185 | 145 => 188 | 143 => 186 | 21 => 21 | 171 => 220 | 173 => 222 | 212 => 229 | 51 => 50 | 20 => 20 | 213 => 230 | 232 => 233 | 233 => 234 | 80 => 235 | n => n, fun | 15 => 4 | 16 => 5 | 17 => 14 | 18 => 15 | 19 => 16 | n => n⟩
theorem Tryz.atoi : Go.Proofs.Lays.n172 Tryz.prog Tryz.atoi_ren := {
  mixed := by kernel_rfl
  f129 := Tryz.func117.trans (congrArg some (by kernel_rfl))
  f171 := Tryz.func80.trans (congrArg some (by kernel_rfl))
  f172 := Tryz.func38.trans (congrArg some (by kernel_rfl))
  f205 := Tryz.func79.trans (congrArg some (by kernel_rfl))
  f243 := Tryz.func104.trans (congrArg some (by kernel_rfl))
  f244 := Tryz.func50.trans (congrArg some (by kernel_rfl))
  f245 := Tryz.func49.trans (congrArg some (by kernel_rfl))
  f246 := Tryz.func128.trans (congrArg some (by kernel_rfl))
  f247 := Tryz.func66.trans (congrArg some (by kernel_rfl))
  f279 := Tryz.func62.trans (congrArg some (by kernel_rfl))
  f280 := Tryz.func63.trans (congrArg some (by kernel_rfl))
  f281 := Tryz.func64.trans (congrArg some (by kernel_rfl))
  f282 := Tryz.func65.trans (congrArg some (by kernel_rfl))
  f283 := Tryz.func133.trans (congrArg some (by kernel_rfl))
  f284 := Tryz.func134.trans (congrArg some (by kernel_rfl))
  f285 := Tryz.func135.trans (congrArg some (by kernel_rfl))
  f286 := Tryz.func136.trans (congrArg some (by kernel_rfl))
  f287 := Tryz.func81.trans (congrArg some (by kernel_rfl))
  f316 := Tryz.func78.trans (congrArg some (by kernel_rfl))
  f317 := Tryz.func139.trans (congrArg some (by kernel_rfl))
  f318 := Tryz.func121.trans (congrArg some (by kernel_rfl))
  f319 := Tryz.func140.trans (congrArg some (by kernel_rfl))
  f320 := Tryz.func141.trans (congrArg some (by kernel_rfl))
  f321 := Tryz.func105.trans (congrArg some (by kernel_rfl))
  f322 := Tryz.func106.trans (congrArg some (by kernel_rfl))
  f337 := Tryz.func142.trans (congrArg some (by kernel_rfl))
  f338 := Tryz.func143.trans (congrArg some (by kernel_rfl))
  t0 := Tryz.underlying0
  a0 := Tryz.isAgg0
  z0 := Tryz.sizeOf0
  v0 := Tryz.zeroValue0
  t2 := Tryz.underlying2
  a2 := Tryz.isAgg2
  z2 := Tryz.sizeOf2
  v2 := Tryz.zeroValue2
  t3 := Tryz.underlying3
  a3 := Tryz.isAgg3
  z3 := Tryz.sizeOf3
  v3 := Tryz.zeroValue3
  t4 := Tryz.underlying4
  a4 := Tryz.isAgg4
  z4 := Tryz.sizeOf4
  v4 := Tryz.zeroValue4
  t5 := Tryz.underlying5
  a5 := Tryz.isAgg5
  z5 := Tryz.sizeOf5
  v5 := Tryz.zeroValue5
  t9 := Tryz.underlying9
  a9 := Tryz.isAgg9
  z9 := Tryz.sizeOf9
  v9 := Tryz.zeroValue9
  t20 := Tryz.underlying20
  a20 := Tryz.isAgg20
  z20 := Tryz.sizeOf20
  v20 := Tryz.zeroValue20
  t21 := Tryz.underlying21
  a21 := Tryz.isAgg21
  z21 := Tryz.sizeOf21
  v21 := Tryz.zeroValue21
  t37 := Tryz.underlying74
  a37 := Tryz.isAgg74
  z37 := Tryz.sizeOf74
  v37 := Tryz.zeroValue74
  t46 := Tryz.underlying89
  a46 := Tryz.isAgg89
  z46 := Tryz.sizeOf89
  v46 := Tryz.zeroValue89
  t51 := Tryz.underlying50
  a51 := Tryz.isAgg50
  z51 := Tryz.sizeOf50
  v51 := Tryz.zeroValue50
  t53 := Tryz.underlying70
  a53 := Tryz.isAgg70
  z53 := Tryz.sizeOf70
  v53 := Tryz.zeroValue70
  t75 := Tryz.underlying67
  a75 := Tryz.isAgg67
  z75 := Tryz.sizeOf67
  v75 := Tryz.zeroValue67
  t76 := Tryz.underlying72
  a76 := Tryz.isAgg72
  z76 := Tryz.sizeOf72
  v76 := Tryz.zeroValue72
  t85 := Tryz.underlying110
  a85 := Tryz.isAgg110
  z85 := Tryz.sizeOf110
  v85 := Tryz.zeroValue110
  t127 := Tryz.underlying185
  a127 := Tryz.isAgg185
  z127 := Tryz.sizeOf185
  v127 := Tryz.zeroValue185
  t143 := Tryz.underlying186
  a143 := Tryz.isAgg186
  z143 := Tryz.sizeOf186
  v143 := Tryz.zeroValue186
  t145 := Tryz.underlying188
  a145 := Tryz.isAgg188
  z145 := Tryz.sizeOf188
  v145 := Tryz.zeroValue188
  t167 := Tryz.underlying106
  a167 := Tryz.isAgg106
  z167 := Tryz.sizeOf106
  v167 := Tryz.zeroValue106
  t168 := Tryz.underlying107
  a168 := Tryz.isAgg107
  z168 := Tryz.sizeOf107
  v168 := Tryz.zeroValue107
  t171 := Tryz.underlying220
  a171 := Tryz.isAgg220
  z171 := Tryz.sizeOf220
  v171 := Tryz.zeroValue220
  t173 := Tryz.underlying222
  a173 := Tryz.isAgg222
  z173 := Tryz.sizeOf222
  v173 := Tryz.zeroValue222
  t175 := Tryz.underlying147
  a175 := Tryz.isAgg147
  z175 := Tryz.sizeOf147
  v175 := Tryz.zeroValue147
  t210 := Tryz.underlying144
  a210 := Tryz.isAgg144
  z210 := Tryz.sizeOf144
  v210 := Tryz.zeroValue144
  t212 := Tryz.underlying229
  a212 := Tryz.isAgg229
  z212 := Tryz.sizeOf229
  v212 := Tryz.zeroValue229
  t213 := Tryz.underlying230
  a213 := Tryz.isAgg230
  z213 := Tryz.sizeOf230
  t232 := Tryz.underlying233
  a232 := Tryz.isAgg233
  z232 := Tryz.sizeOf233
  v232 := Tryz.zeroValue233
  t233 := Tryz.underlying234
  a233 := Tryz.isAgg234
  z233 := Tryz.sizeOf234
  v233 := Tryz.zeroValue234
  g15 := by kernel_rfl
  g16 := by kernel_rfl
  g17 := by kernel_rfl
  g18 := by kernel_rfl
  g19 := by kernel_rfl }
def Tryz.indexB_ren : Go.Shelf.Ren := ⟨fun | 137 => 18 | 217 => 34 | 266 => 47 | n => n, fun | 9 => 9 | 5 => 5 | 3 => 3 | n => n, fun | n => n⟩
theorem Tryz.indexB : Go.Proofs.Lays.n137 Tryz.prog Tryz.indexB_ren := {
  mixed := by kernel_rfl
  f137 := Tryz.func18.trans (congrArg some (by kernel_rfl))
  f217 := Tryz.func34.trans (congrArg some (by kernel_rfl))
  f266 := Tryz.func47.trans (congrArg some (by kernel_rfl))
  t3 := Tryz.underlying3
  a3 := Tryz.isAgg3
  z3 := Tryz.sizeOf3
  v3 := Tryz.zeroValue3
  t5 := Tryz.underlying5
  a5 := Tryz.isAgg5
  z5 := Tryz.sizeOf5
  v5 := Tryz.zeroValue5
  t9 := Tryz.underlying9
  a9 := Tryz.isAgg9
  z9 := Tryz.sizeOf9
  v9 := Tryz.zeroValue9 }
def Tryz.count_ren : Go.Shelf.Ren := ⟨fun | 138 => 13 | 195 => 29 | 218 => 30 | 143 => 31 | 219 => 43 | 217 => 34 | 225 => 52 | 224 => 53 | 267 => 54 | 266 => 47 | 314 => 69 | n => n, fun | 9 => 9 | 3 => 3 | 4 => 4 | 5 => 5 | 0 => 0 | 46 => 89 | 146 => 123 | 51 => 50 | n => n, fun | 1 => 1 | n => n⟩
theorem Tryz.count : Go.Proofs.Lays.n138 Tryz.prog Tryz.count_ren := {
  mixed := by kernel_rfl
  f138 := Tryz.func13.trans (congrArg some (by kernel_rfl))
  f143 := Tryz.func31.trans (congrArg some (by kernel_rfl))
  f195 := Tryz.func29.trans (congrArg some (by kernel_rfl))
  f217 := Tryz.func34.trans (congrArg some (by kernel_rfl))
  f218 := Tryz.func30.trans (congrArg some (by kernel_rfl))
  f219 := Tryz.func43.trans (congrArg some (by kernel_rfl))
  f224 := Tryz.func53.trans (congrArg some (by kernel_rfl))
  f225 := Tryz.func52.trans (congrArg some (by kernel_rfl))
  f266 := Tryz.func47.trans (congrArg some (by kernel_rfl))
  f267 := Tryz.func54.trans (congrArg some (by kernel_rfl))
  f314 := Tryz.func69.trans (congrArg some (by kernel_rfl))
  t0 := Tryz.underlying0
  a0 := Tryz.isAgg0
  z0 := Tryz.sizeOf0
  v0 := Tryz.zeroValue0
  t3 := Tryz.underlying3
  a3 := Tryz.isAgg3
  z3 := Tryz.sizeOf3
  v3 := Tryz.zeroValue3
  t4 := Tryz.underlying4
  a4 := Tryz.isAgg4
  z4 := Tryz.sizeOf4
  v4 := Tryz.zeroValue4
  t5 := Tryz.underlying5
  a5 := Tryz.isAgg5
  z5 := Tryz.sizeOf5
  v5 := Tryz.zeroValue5
  t9 := Tryz.underlying9
  a9 := Tryz.isAgg9
  z9 := Tryz.sizeOf9
  v9 := Tryz.zeroValue9
  t46 := Tryz.underlying89
  a46 := Tryz.isAgg89
  z46 := Tryz.sizeOf89
  v46 := Tryz.zeroValue89
  t51 := Tryz.underlying50
  a51 := Tryz.isAgg50
  z51 := Tryz.sizeOf50
  v51 := Tryz.zeroValue50
  t146 := Tryz.underlying123
  a146 := Tryz.isAgg123
  z146 := Tryz.sizeOf123
  v146 := Tryz.zeroValue123
  g1 := by kernel_rfl }
def Tryz.toErr_ren : Go.Shelf.Ren := ⟨fun | 17 => 49 | 21 => 62 | 22 => 63 | 23 => 64 | 24 => 65 | 25 => 78 | 27 => 80 | 26 => 79 | 28 => 104 | 29 => 128 | 30 => 133 | 31 => 134 | 32 => 135 | 33 => 136 | 35 => 117 | 34 => 139 | 36 => 121 | 37 => 140 | 38 => 141 | 39 => 142 | 40 => 143 | n => n, fun | 9 => 9 | 3 => 3 | 24 => 67 | 34 => 106 | 4 => 4 | 39 => 107 | 44 => 144 | 37 => 74 | 0 => 0 | 47 => 185 | 50 => 188 | 48 => 186 | 2 => 2 | 52 => 220 | 22 => 70 | 5 => 5 | 55 => 222 | 59 => 229 | 60 => 50 | 20 => 20 | 61 => 230 | 36 => 89 | 65 => 233 | 66 => 234 | 67 => 235 | n => n, fun | 0 => 4 | 1 => 5 | 2 => 14 | 3 => 15 | 4 => 16 | n => n⟩
theorem Tryz.toErr : Go.Proofs.LaysPu.n17 Tryz.prog Tryz.toErr_ren := {
  mixed := by kernel_rfl
  f17 := Tryz.func49.trans (congrArg some (by kernel_rfl))
  f21 := Tryz.func62.trans (congrArg some (by kernel_rfl))
  f22 := Tryz.func63.trans (congrArg some (by kernel_rfl))
  f23 := Tryz.func64.trans (congrArg some (by kernel_rfl))
  f24 := Tryz.func65.trans (congrArg some (by kernel_rfl))
  f25 := Tryz.func78.trans (congrArg some (by kernel_rfl))
  f26 := Tryz.func79.trans (congrArg some (by kernel_rfl))
  f27 := Tryz.func80.trans (congrArg some (by kernel_rfl))
  f28 := Tryz.func104.trans (congrArg some (by kernel_rfl))
  f29 := Tryz.func128.trans (congrArg some (by kernel_rfl))
  f30 := Tryz.func133.trans (congrArg some (by kernel_rfl))
  f31 := Tryz.func134.trans (congrArg some (by kernel_rfl))
  f32 := Tryz.func135.trans (congrArg some (by kernel_rfl))
  f33 := Tryz.func136.trans (congrArg some (by kernel_rfl))
  f34 := Tryz.func139.trans (congrArg some (by kernel_rfl))
  f35 := Tryz.func117.trans (congrArg some (by kernel_rfl))
  f36 := Tryz.func121.trans (congrArg some (by kernel_rfl))
  f37 := Tryz.func140.trans (congrArg some (by kernel_rfl))
  f38 := Tryz.func141.trans (congrArg some (by kernel_rfl))
  f39 := Tryz.func142.trans (congrArg some (by kernel_rfl))
  f40 := Tryz.func143.trans (congrArg some (by kernel_rfl))
  t0 := Tryz.underlying0
  a0 := Tryz.isAgg0
  z0 := Tryz.sizeOf0
  v0 := Tryz.zeroValue0
  i0 := by kernel_rfl
  t2 := Tryz.underlying2
  a2 := Tryz.isAgg2
  z2 := Tryz.sizeOf2
  v2 := Tryz.zeroValue2
  i2 := by kernel_rfl
  t3 := Tryz.underlying3
  a3 := Tryz.isAgg3
  z3 := Tryz.sizeOf3
  v3 := Tryz.zeroValue3
  i3 := by kernel_rfl
  t4 := Tryz.underlying4
  a4 := Tryz.isAgg4
  z4 := Tryz.sizeOf4
  v4 := Tryz.zeroValue4
  i4 := by kernel_rfl
  t5 := Tryz.underlying5
  a5 := Tryz.isAgg5
  z5 := Tryz.sizeOf5
  v5 := Tryz.zeroValue5
  i5 := by kernel_rfl
  t9 := Tryz.underlying9
  a9 := Tryz.isAgg9
  z9 := Tryz.sizeOf9
  v9 := Tryz.zeroValue9
  i9 := by kernel_rfl
  t20 := Tryz.underlying20
  a20 := Tryz.isAgg20
  z20 := Tryz.sizeOf20
  v20 := Tryz.zeroValue20
  i20 := by kernel_rfl
  t22 := Tryz.underlying70
  a22 := Tryz.isAgg70
  z22 := Tryz.sizeOf70
  v22 := Tryz.zeroValue70
  i22 := by kernel_rfl
  t24 := Tryz.underlying67
  a24 := Tryz.isAgg67
  z24 := Tryz.sizeOf67
  v24 := Tryz.zeroValue67
  i24 := by kernel_rfl
  t34 := Tryz.underlying106
  a34 := Tryz.isAgg106
  z34 := Tryz.sizeOf106
  v34 := Tryz.zeroValue106
  i34 := by kernel_rfl
  c34 := by kernel_rfl
  t36 := Tryz.underlying89
  a36 := Tryz.isAgg89
  z36 := Tryz.sizeOf89
  v36 := Tryz.zeroValue89
  i36 := by kernel_rfl
  t37 := Tryz.underlying74
  a37 := Tryz.isAgg74
  z37 := Tryz.sizeOf74
  v37 := Tryz.zeroValue74
  i37 := by kernel_rfl
  t39 := Tryz.underlying107
  a39 := Tryz.isAgg107
  z39 := Tryz.sizeOf107
  v39 := Tryz.zeroValue107
  i39 := by kernel_rfl
  t44 := Tryz.underlying144
  a44 := Tryz.isAgg144
  z44 := Tryz.sizeOf144
  v44 := Tryz.zeroValue144
  i44 := by kernel_rfl
  t47 := Tryz.underlying185
  a47 := Tryz.isAgg185
  z47 := Tryz.sizeOf185
  v47 := Tryz.zeroValue185
  i47 := by kernel_rfl
  t48 := Tryz.underlying186
  a48 := Tryz.isAgg186
  z48 := Tryz.sizeOf186
  v48 := Tryz.zeroValue186
  i48 := by kernel_rfl
  t50 := Tryz.underlying188
  a50 := Tryz.isAgg188
  z50 := Tryz.sizeOf188
  v50 := Tryz.zeroValue188
  i50 := by kernel_rfl
  t52 := Tryz.underlying220
  a52 := Tryz.isAgg220
  z52 := Tryz.sizeOf220
  v52 := Tryz.zeroValue220
  i52 := by kernel_rfl
  t55 := Tryz.underlying222
  a55 := Tryz.isAgg222
  z55 := Tryz.sizeOf222
  v55 := Tryz.zeroValue222
  i55 := by kernel_rfl
  t59 := Tryz.underlying229
  a59 := Tryz.isAgg229
  z59 := Tryz.sizeOf229
  v59 := Tryz.zeroValue229
  i59 := by kernel_rfl
  t60 := Tryz.underlying50
  a60 := Tryz.isAgg50
  z60 := Tryz.sizeOf50
  v60 := Tryz.zeroValue50
  i60 := by kernel_rfl
  t61 := Tryz.underlying230
  a61 := Tryz.isAgg230
  z61 := Tryz.sizeOf230
  t65 := Tryz.underlying233
  a65 := Tryz.isAgg233
  z65 := Tryz.sizeOf233
  v65 := Tryz.zeroValue233
  i65 := by kernel_rfl
  t66 := Tryz.underlying234
  a66 := Tryz.isAgg234
  z66 := Tryz.sizeOf234
  v66 := Tryz.zeroValue234
  i66 := by kernel_rfl
  t67 := Tryz.underlying235
  a67 := Tryz.isAgg235
  z67 := Tryz.sizeOf235
  v67 := Tryz.zeroValue235
  i67 := by kernel_rfl
  g0 := by kernel_rfl
  m0 := by kernel_rfl
  g1 := by kernel_rfl
  m1 := by kernel_rfl
  g2 := by kernel_rfl
  m2 := by kernel_rfl
  g3 := by kernel_rfl
  m3 := by kernel_rfl
  g4 := by kernel_rfl
  m4 := by kernel_rfl }
end Go.Proofs
end

section
namespace Go.Proofs.YtngklbnodknadaaGreatDoor
open Go.RowKit

abbrev errT (n : Int) : T := .d (.v (.iface 106 (.int .i64 n)))
theorem err_syntax (w : World) (h : TabsIn w) : ∃ t p, w.cell? ⟨4, 0, none⟩ = some (.iface t p) := by
  obtain ⟨cs, t, fr, ⟨te, pe, rfl⟩, h1⟩ := h.one (4, errV) (by unfold tabs; simp)
  exact ⟨te, pe, by simp [World.cell?, h1]⟩
theorem err_range (w : World) (h : TabsIn w) : ∃ t p, w.cell? ⟨5, 0, none⟩ = some (.iface t p) := by
  obtain ⟨cs, t, fr, ⟨te, pe, rfl⟩, h1⟩ := h.one (5, errV) (by unfold tabs; simp)
  exact ⟨te, pe, by simp [World.cell?, h1]⟩
theorem toErr_fn (n : Int) (hn : n = 1 ∨ n = 2) (fn s : List UInt8) (base bits : Int) (hs : s.length ≤ 281474976710656) : FnD Tryz.prog 49 [strT fn, strT s, intT base, intT bits, errT n] (.pr isErr) := by
  intro w g vs ht hi hr
  cases hr with
  | cons r0 hr =>
  cases hr with
  | cons r1 hr =>
  cases hr with
  | cons r2 hr =>
  cases hr with
  | cons r3 hr =>
  cases hr with
  | cons r4 hr =>
  cases hr
  obtain rfl := inv_v r0
  obtain rfl := inv_v r1
  obtain rfl := inv_v r2
  obtain rfl := inv_v r3
  obtain rfl := inv_v r4
  have fin : ∀ {e : Ending} {w' : World}, (∃ N, e = .returned (.iface (Tryz.toErr_ren.t 39) (.pointer (some ⟨N, 0, none⟩))) ∧ w.heap.size ≤ N ∧ (∃ ev, w'.heap[N]? = some (.cells #[.string ⟨fn.toArray⟩, .string ⟨s.toArray⟩, ev] (Tryz.toErr_ren.t 44) (0, 0))) ∧ Below w.heap.size w w') →
      ∃ v S', e = .returned v ∧ SLe g.S S' ∧ (∀ b o, b < w.heap.size → ¬ TabB w b → S' b o = g.S b o) ∧ (∀ b o x, S' b o = some x → w'.cell? ⟨b, o, none⟩ = some x) ∧ RepT ⟨S', g.blk, g.row, g.len⟩ (.pr isErr) v ∧ Below w.heap.size w w' := by
    rintro e w' ⟨N, rfl, -, -, hb⟩
    refine ⟨_, g.S, rfl, SLe.refl _, fun _ _ _ _ => rfl, fun b o x hx => ?_, .pr rfl rfl, hb⟩
    rw [hb.cell (p := ⟨b, o, none⟩) (World.block_lt_of_cell? w ⟨b, o, none⟩ (hi b o x hx))]
    exact hi b o x hx
  rcases hn with rfl | rfl
  · obtain ⟨t, p, hv⟩ := err_range w ht
    have hc := AnyPu.strconv_toError_range Tryz.toErr ⟨fn.toArray⟩ ⟨s.toArray⟩ base bits _ w (by rw [str_size]; exact hs) hv (.inr ⟨t, p, rfl⟩)
    exact Calls.mono hc fun e w' ⟨N, h1, h2, h3, h4⟩ => fin ⟨N, h1, h2, ⟨_, h3⟩, h4⟩
  · obtain ⟨t, p, hv⟩ := err_syntax w ht
    have hc := AnyPu.strconv_toError_syntax Tryz.toErr ⟨fn.toArray⟩ ⟨s.toArray⟩ base bits _ w (by rw [str_size]; exact hs) hv (.inr ⟨t, p, rfl⟩)
    exact Calls.mono hc fun e w' ⟨N, h1, h2, h3, h4⟩ => fin ⟨N, h1, h2, ⟨_, h3⟩, h4⟩
theorem FnD.und2 {f : FuncId} {args : List T} {a b : T} (h : FnD Tryz.prog f args (.tup [a, b])) : FnD Tryz.prog f args (.tup [a, .und]) := fun w g vs ht hi hr =>
  (h w g vs ht hi hr).mono fun e w' ⟨v, S', e1, e2, e3, e4, e5, e6⟩ => ⟨v, S', e1, e2, e3, e4, by
    cases e5 with
    | tup h =>
      cases h with
      | cons h1 h =>
        cases h with
        | cons h2 h =>
          cases h
          exact .tup (.cons h1 (.cons .und .nil)), e6⟩
set_option maxHeartbeats 4000000 in
theorem pfs_ex (s : List UInt8) (k : Nat) (hs : NumS s k) (hl : s.length ≤ 900000000) : ∃ (n : Nat) (e : T), FnD Tryz.prog 36 [strT s, intT 64] (.tup [f64T n, e]) ∧ (rfM s = ⟨15, 2, 2, 1, true, true, false⟩ → n = 4609434218613702656) := by
  obtain ⟨n, x, h, h15⟩ := pfi_ex s k hs hl
  cases x with
  | true =>
    have hE := toErr_fn 1 (by omega) [80, 97, 114, 115, 101, 70, 108, 111, 97, 116] s 0 64 (by omega)
    refine ⟨n, .pr isErr, ?_, fun h => (h15 h).1⟩
    refine FnD.ofT (n := 22) [] fax_ok Tryz.func36 rfl rfl rfl (by rfl) (by kernel_rfl) (by intro _; rfl) fun Γ hA hbA => ?_
    (repeat ((conv => whnf); refine gd (enters_of Tryz.func48 rfl rfl) h ?_))
    refine gen_nil (t_bin rfl rfl rfl (b_neq_err _ _ _ (by kernel_rfl)) rfl) ?_
    (repeat ((conv => whnf); (first | refine gd (enters_of Tryz.func49 rfl rfl) hE ?_ | refine tT ?_)))
    exact ⟨eN, rS, fiO⟩
  | false =>
    refine ⟨n, .d (.v .nilIface), ?_, fun h => (h15 h).1⟩
    refine FnD.ofT (n := 22) [] fax_ok Tryz.func36 rfl rfl rfl (by rfl) (by kernel_rfl) (by intro _; rfl) fun Γ hA hbA => ?_
    (repeat ((conv => whnf); refine gd (enters_of Tryz.func48 rfl rfl) h ?_))
    refine gen_nil (t_neq_nil rfl rfl (by kernel_rfl)) ?_
    (repeat ((conv => whnf); refine tF ?_))
    exact ⟨eN, rS, fiO⟩
/-- What the library reads a number as. -/
theorem pfl_ex : ∃ (pf : List UInt8 → Nat) (er : List UInt8 → T), (∀ s k, NumS s k → s.length ≤ 900000000 → FnD Tryz.prog 36 [strT s, intT 64] (.tup [f64T (pf s), er s])) ∧ pf [49, 46, 53] = 4609434218613702656 := by
  have h : ∀ s : List UInt8, ∃ (n : Nat) (e : T), (∀ k, NumS s k → s.length ≤ 900000000 → FnD Tryz.prog 36 [strT s, intT 64] (.tup [f64T n, e])) ∧ (rfM s = ⟨15, 2, 2, 1, true, true, false⟩ → n = 4609434218613702656) := fun s => by
    by_cases hx : ∃ k, NumS s k ∧ s.length ≤ 900000000
    · obtain ⟨k, hs, hl⟩ := hx
      obtain ⟨n, e, h, h15⟩ := pfs_ex s k hs hl
      exact ⟨n, e, fun _ _ _ => h, h15⟩
    · exact ⟨4609434218613702656, .und, fun k hs hl => absurd ⟨k, hs, hl⟩ hx, fun _ => rfl⟩
  exact ⟨fun s => (h s).choose, fun s => (h s).choose_spec.choose, fun s k hs hl => (h s).choose_spec.choose_spec.1 k hs hl, (h [49, 46, 53]).choose_spec.choose_spec.2 (by kernel_rfl)⟩
noncomputable def pfM : List UInt8 → Nat := pfl_ex.choose
theorem pfl_fn (s : List UInt8) (k : Nat) (hs : NumS s k) (hl : s.length ≤ 900000000) : FnD Tryz.prog 36 [strT s, intT 64] (.tup [f64T (pfM s), .und]) := FnD.und2 (pfl_ex.choose_spec.choose_spec.1 s k hs hl)
theorem pfM_15 : pfM [49, 46, 53] = 4609434218613702656 := pfl_ex.choose_spec.choose_spec.2
end Go.Proofs.YtngklbnodknadaaGreatDoor
end

section
namespace Go.Proofs.YtngklbnodknadaaGreatDoor

/-- A small letter is a great one with one bit more. -/
def lowB (c : UInt8) : UInt8 := c ||| 32
def isLet (c : UInt8) : Bool := (decide (97 ≤ (lowB c).toNat) && decide ((lowB c).toNat ≤ 122)) || decide (c = 95)
def isDgB (c : UInt8) : Bool := decide (48 ≤ c.toNat) && decide (c.toNat ≤ 57)
def isSig (c : UInt8) : Bool := isLet c || isDgB c
def isBl (c : UInt8) : Bool := decide (c = 32) || (decide (c = 9) || (decide (c = 13) || decide (c = 10)))
def notNl (c : UInt8) : Bool := decide (c ≠ 10)
/-- How many bytes at the beginning are so. -/
def runN (p : UInt8 → Bool) : List UInt8 → Nat
  | [] => 0
  | c :: l => if p c = true then runN p l + 1 else 0
theorem runN_le (p : UInt8 → Bool) : ∀ l, runN p l ≤ l.length
  | [] => Nat.le_refl _
  | c :: l => by
    rw [runN]
    split
    · exact Nat.succ_le_succ (runN_le p l)
    · exact Nat.zero_le _
def blankN (s : List UInt8) : Nat := if s[runN isBl s]? = some 35 then runN isBl s + runN notNl (s.drop (runN isBl s)) else runN isBl s
structure Tok where
  (kind : Int) (text : List UInt8) (num at' to line : Int)
def tok0 : Tok := ⟨0, [], 0, 0, 0, 0⟩
/-- Errors: none, too large, no token. -/
def eOK : Int := 0
def escM (c : UInt8) : Option UInt8 := if c = 110 then some 10 else if c = 34 ∨ c = 92 then some c else none
/-- A quoted text behind its first sign: k bytes are read, b is what they say. -/
def quoL : List UInt8 → List UInt8 → Nat → Tok × Int
  | [], _, _ => (⟨5, [], 0, 0, 0, 0⟩, 4)
  | c :: l, b, k =>
    if c = 34 then (⟨5, b, 0, 0, ((k + 1 : Nat) : Int), 0⟩, if 200 < b.length then 2 else 0)
    else if c.toNat < 32 then (⟨5, [], 0, 0, 0, 0⟩, 4)
    else if c = 92 then (match l with
      | [] => (⟨5, [], 0, 0, 0, 0⟩, 4)
      | x :: l' => match escM x with
        | none => (⟨5, [], 0, 0, 0, 0⟩, 4)
        | some y => quoL l' (b ++ [y]) (k + 2))
    else quoL l (b ++ [c]) (k + 1)
theorem quoL_nil (b : List UInt8) (k : Nat) : quoL [] b k = (⟨5, [], 0, 0, 0, 0⟩, 4) := by rw [quoL.eq_def]
theorem quoL_cons (c : UInt8) (l b : List UInt8) (k : Nat) : quoL (c :: l) b k =
    if c = 34 then (⟨5, b, 0, 0, ((k + 1 : Nat) : Int), 0⟩, if 200 < b.length then 2 else 0)
    else if c.toNat < 32 then (⟨5, [], 0, 0, 0, 0⟩, 4)
    else if c = 92 then (match l with
      | [] => (⟨5, [], 0, 0, 0, 0⟩, 4)
      | x :: l' => match escM x with
        | none => (⟨5, [], 0, 0, 0, 0⟩, 4)
        | some y => quoL l' (b ++ [y]) (k + 2))
    else quoL l (b ++ [c]) (k + 1) := by rw [quoL.eq_def]
def quoM (s : List UInt8) : Tok × Int := quoL (s.drop 1) [] 1
def wordsT : List UInt8 := [108, 101, 116, 32, 102, 110, 32, 103, 101, 110, 32, 105, 102, 32, 101, 108, 115, 101, 32, 119, 104, 105, 108, 101, 32, 102, 111, 114, 32, 105, 110, 32, 114, 101, 116, 117, 114, 110, 32, 98, 114, 101, 97, 107, 32, 99, 111, 110, 116, 105, 110, 117, 101, 32, 116, 104, 114, 111, 119, 32, 116, 114, 121, 32, 99, 97, 116, 99, 104, 32, 115, 97, 121, 32, 108, 111, 99, 107, 32, 102, 114, 101, 101, 32, 121, 105, 101, 108, 100, 32, 115, 112, 97, 119, 110, 32, 106, 111, 105, 110, 32, 97, 115, 107, 32, 116, 114, 117, 101, 32, 102, 97, 108, 115, 101, 32, 110, 105, 108, 32, 97, 110, 100, 32, 111, 114, 32, 110, 111, 116]
def marksT : List UInt8 := [61, 61, 32, 33, 61, 32, 60, 61, 32, 62, 61, 32, 40, 32, 41, 32, 91, 32, 93, 32, 123, 32, 125, 32, 44, 32, 59, 32, 58, 32, 46, 32, 61, 32, 60, 32, 62, 32, 43, 32, 45, 32, 42, 32, 47, 32, 37]
def wordsL : List (List UInt8) := Lib.fields wordsT
def marksL : List (List UInt8) := Lib.fields marksT
def decV : List UInt8 → Nat → Nat
  | [], n => n
  | c :: l, n => decV l (n * 10 + (c.toNat - 48))
section
variable (pf : List UInt8 → Nat)
def isFl (s : List UInt8) : Bool := match s.drop (runN isDgB s) with | 46 :: c :: _ => isDgB c | _ => false
def toN (s : List UInt8) : Nat := if isFl s = true then runN isDgB s + 1 + runN isDgB (s.drop (runN isDgB s + 1)) else runN isDgB s
def letAt : Option UInt8 → Bool
  | some c => isLet c
  | none => false
def numM (s : List UInt8) : Tok × Int :=
  if letAt s[toN s]? = true then (⟨if isFl s = true then 4 else 3, [], 0, 0, (toN s : Nat), 0⟩, 4)
  else if isFl s = true then (⟨4, [], IntKind.i64.wrap ((pf (s.take (toN s)) : Nat) : Int), 0, (toN s : Nat), 0⟩, if 20 < toN s then 2 else 0)
  else if 10 < toN s then (⟨3, [], 0, 0, (toN s : Nat), 0⟩, 2)
  else (⟨3, [], (decV (s.take (toN s)) 0 : Nat), 0, (toN s : Nat), 0⟩, if 2147483647 < decV (s.take (toN s)) 0 then 2 else 0)
def markM (s : List UInt8) : Tok × Int := match marksL.find? fun m => Lib.hasPrefix s m with
  | some m => (⟨6, [], 0, 0, (m.length : Nat), 0⟩, 0)
  | none => (tok0, 4)
def oneM (s : List UInt8) : Tok × Int := match s with
  | [] => (tok0, 4)
  | c :: _ =>
    if isLet c = true then (if 40 < runN isSig s then (tok0, 2) else if s.take (runN isSig s) ∈ wordsL then (⟨1, [], 0, 0, (runN isSig s : Nat), 0⟩, 0) else (⟨2, [], 0, 0, (runN isSig s : Nat), 0⟩, 0))
    else if isDgB c = true then numM pf s
    else if c = 34 then quoM s
    else markM s
/-- A token where it stands. -/
def putM (s : List UInt8) (a : Nat) (t : Tok) : Tok := ⟨t.kind, if t.kind = 5 then t.text else (s.drop a).take t.to.toNat, t.num, a, (a : Int) + t.to, 1 + ((s.take a).count 10 : Nat)⟩
/-- From a on; at most f steps. -/
def tokL (s : List UInt8) : Nat → Nat → List Tok → List Tok × Int
  | 0, _, out => (out, 0)
  | f + 1, a, out =>
    if s.length ≤ a then (out, 0)
    else if 0 < blankN (s.drop a) then tokL s f (a + blankN (s.drop a)) out
    else if (oneM pf (s.drop a)).2 ≠ 0 then ([], (oneM pf (s.drop a)).2)
    else tokL s f (a + (oneM pf (s.drop a)).1.to.toNat) (out ++ [putM s a (oneM pf (s.drop a)).1])
def tokM (s : List UInt8) : List Tok × Int :=
  if 2000 < s.length then ([], 2)
  else if (tokL pf s (s.length + 1) 0 []).2 ≠ 0 then ([], (tokL pf s (s.length + 1) 0 []).2)
  else if 800 < (tokL pf s (s.length + 1) 0 []).1.length then ([], 2)
  else ((tokL pf s (s.length + 1) 0 []).1, 0)
end
theorem runN_all {p : UInt8 → Bool} : ∀ {l : List UInt8} {i : Nat} {c : UInt8}, i < runN p l → l[i]? = some c → p c = true
  | [], i, c, h, _ => absurd h (Nat.not_lt_zero _)
  | a :: l, i, c, h, hc => by
    rw [runN] at h
    split at h
    · next hp =>
      cases i with
      | zero => simp at hc; rw [← hc]; exact hp
      | succ i => exact runN_all (l := l) (i := i) (by omega) (by simpa using hc)
    · exact absurd h (Nat.not_lt_zero _)
theorem runN_end {p : UInt8 → Bool} : ∀ {l : List UInt8} {c : UInt8}, l[runN p l]? = some c → p c = false
  | [], c, h => by simp at h
  | a :: l, c, h => by
    rw [runN] at h
    split at h
    · exact runN_end (l := l) (by simpa using h)
    · next hp => simp at h; rw [← h]; simpa using hp
theorem runN_pos {p : UInt8 → Bool} {c : UInt8} {l : List UInt8} (h : p c = true) : 1 ≤ runN p (c :: l) := by rw [runN, if_pos h]; omega
theorem isFl_in {s : List UInt8} {c0 c1 : UInt8} (h0 : s[runN isDgB s]? = some c0) (h1 : s[runN isDgB s + 1]? = some c1) : isFl s = (decide (c0 = 46) && isDgB c1) := by
  unfold isFl
  have e : s.drop (runN isDgB s) = c0 :: c1 :: s.drop (runN isDgB s + 2) := by
    obtain ⟨h2, e1⟩ := List.getElem?_eq_some_iff.1 h0
    obtain ⟨h3, e2⟩ := List.getElem?_eq_some_iff.1 h1
    rw [List.drop_eq_getElem_cons h2, List.drop_eq_getElem_cons h3, e1, e2]
  rw [e]
  by_cases h : c0 = 46
  · subst h; simp
  · rw [decide_eq_false h, Bool.false_and]
    split
    · next heq => injection heq with q; exact absurd q h
    · rfl
theorem isFl_out {s : List UInt8} (h : ¬ runN isDgB s + 1 < s.length) : isFl s = false := by
  unfold isFl
  split
  · next heq =>
    have := congrArg List.length heq
    rw [List.length_drop] at this
    simp at this
    omega
  · rfl
theorem isDgB_iff {c : UInt8} : isDgB c = true ↔ 48 ≤ c.toNat ∧ c.toNat ≤ 57 := by unfold isDgB; simp
end Go.Proofs.YtngklbnodknadaaGreatDoor
end

section
namespace Go.Proofs.YtngklbnodknadaaGreatDoor
open Go.RowKit

theorem lowB_or (c : UInt8) : orI (c.toNat : Int) = ((lowB c).toNat : Int) := by
  have : ∀ n : Fin 256, orI (n.1 : Int) = ((lowB (UInt8.ofNat n.1)).toNat : Int) := by decide +kernel
  have h := this ⟨c.toNat, c.toNat_lt⟩
  simpa using h
theorem or_low (c : UInt8) : IntKind.u8.wrap (BitVec.ofInt IntKind.u8.bits (c.toNat : Int) ||| BitVec.ofInt IntKind.u8.bits 32).toNat = ((lowB c).toNat : Int) := lowB_or c
theorem eqB (c d : UInt8) : ((c.toNat : Int) == (d.toNat : Int)) = decide (c = d) := by
  by_cases h : c = d
  · subst h; simp
  · have : c.toNat ≠ d.toNat := fun e => h (UInt8.toNat_inj.1 e)
    rw [decide_eq_false h]
    simp; omega
theorem letter_fn (c : UInt8) : FnD Tryz.prog 20 [u8T c] (boolT (isLet c)) := by
  have hl := or_low c
  have h95 : ((c.toNat : Int) == 95) = decide (c = 95) := eqB c 95
  unfold isLet
  generalize lowB c = l at hl
  by_cases h1 : 97 ≤ l.toNat
  · by_cases h2 : l.toNat ≤ 122
    · rw [decide_eq_true h1, decide_eq_true h2]
      refine FnD.of1 (n := 15) [] fax_ok Tryz.func20 rfl rfl rfl (by rfl) (by kernel_rfl) (by intro _; rfl) fun Γ hA hbA => ?_
      (repeat ((conv => whnf); (first | with_reducible refine exE (α := Int) _ (by assumption) ?_ | refine exR ?_ | refine tT ?_ | refine uF ?_)))
      exact ⟨eN, rS, fiO⟩
    · rw [decide_eq_true h1, decide_eq_false h2, ← h95]
      refine FnD.of1 (n := 15) [] fax_ok Tryz.func20 rfl rfl rfl (by rfl) (by kernel_rfl) (by intro _; rfl) fun Γ hA hbA => ?_
      (repeat ((conv => whnf); (first | with_reducible refine exE (α := Int) _ (by assumption) ?_ | refine exR ?_ | refine tT ?_ | refine tF ?_ | refine uT ?_)))
      exact ⟨eN, rS, fiO⟩
  · rw [decide_eq_false h1, ← h95]
    refine FnD.of1 (n := 15) [] fax_ok Tryz.func20 rfl rfl rfl (by rfl) (by kernel_rfl) (by intro _; rfl) fun Γ hA hbA => ?_
    (repeat ((conv => whnf); (first | with_reducible refine exE (α := Int) _ (by assumption) ?_ | refine exR ?_ | refine tF ?_ | refine uT ?_)))
    exact ⟨eN, rS, fiO⟩
theorem digit_fn (c : UInt8) : FnD Tryz.prog 24 [u8T c] (boolT (isDgB c)) := by
  unfold isDgB
  by_cases h1 : 48 ≤ c.toNat
  · rw [decide_eq_true h1, Bool.true_and, show decide (c.toNat ≤ 57) = decide ((c.toNat : Int) ≤ 57) from decide_eq_decide.2 (by omega)]
    refine FnD.of1 (n := 9) [] fax_ok Tryz.func24 rfl rfl rfl (by rfl) (by kernel_rfl) (by intro _; rfl) fun Γ hA hbA => ?_
    (repeat ((conv => whnf); (first | refine exR ?_ | refine tT ?_)))
    exact ⟨eN, rS, fiO⟩
  · rw [decide_eq_false h1, Bool.false_and]
    refine FnD.of1 (n := 9) [] fax_ok Tryz.func24 rfl rfl rfl (by rfl) (by kernel_rfl) (by intro _; rfl) fun Γ hA hbA => ?_
    (repeat ((conv => whnf); (first | refine exR ?_ | refine tF ?_)))
    exact ⟨eN, rS, fiO⟩
theorem sign_fn (c : UInt8) : FnD Tryz.prog 21 [u8T c] (boolT (isSig c)) := by
  have hL := letter_fn c
  have hD := digit_fn c
  unfold isSig
  generalize isLet c = a at *
  generalize isDgB c = b at *
  cases a with
  | true =>
    refine FnD.of1 (n := 9) [] fax_ok Tryz.func21 rfl rfl rfl (by rfl) (by kernel_rfl) (by intro _; rfl) fun Γ hA hbA => ?_
    (repeat ((conv => whnf); (first | refine gd (enters_of Tryz.func20 rfl rfl) hL ?_ | refine tT ?_ | refine uF ?_)))
    exact ⟨eN, rS, fiO⟩
  | false =>
    refine FnD.of1 (n := 9) [] fax_ok Tryz.func21 rfl rfl rfl (by rfl) (by kernel_rfl) (by intro _; rfl) fun Γ hA hbA => ?_
    (repeat ((conv => whnf); (first | refine gd (enters_of Tryz.func20 rfl rfl) hL ?_ | refine gd (enters_of Tryz.func24 rfl rfl) hD ?_ | refine tF ?_ | refine uT ?_)))
    exact ⟨eN, rS, fiO⟩
/-- One flat result; what was there stays. -/
theorem FnD.flat1 {f : FuncId} {args : List T} {v : Value} (h1 : v.oneCell' = true) (h : ∀ (w : World) (g : Gh) (xs : List Value), TabsIn w → Reps g args xs → Calls Tryz.prog f xs.toArray w fun e w' => e = .returned v ∧ Below w.heap.size w w') : FnD Tryz.prog f args (.d (.v v)) := by
  intro w g xs ht hi hr
  refine (h w g xs ht hr).mono ?_
  rintro e w' ⟨rfl, hb⟩
  refine ⟨_, g.S, rfl, SLe.refl _, fun _ _ _ _ => rfl, fun b o x hx => ?_, .d (.v h1), hb⟩
  rw [hb.cell (p := ⟨b, o, none⟩) (World.block_lt_of_cell? w ⟨b, o, none⟩ (hi b o x hx))]
  exact hi b o x hx
theorem indexB_fn (s : List UInt8) (c : UInt8) : FnD Tryz.prog 18 [strT s, u8T c] (intT (Lib.indexByte s c)) := FnD.flat1 rfl fun w g xs _ hr => by
  cases hr with
  | cons h1 hr =>
    cases hr with
    | cons h2 hr =>
      cases hr
      cases inv_v h1
      cases inv_v h2
      refine (Any.strings_IndexByte Tryz.indexB ⟨s.toArray⟩ (c.toNat : Int) w).mono fun e w' ⟨e1, e2⟩ => ?_
      subst e2
      refine ⟨?_, Below.refl _ _⟩
      rw [e1]
      simp
theorem bl1_fn (c : UInt8) : FnD Tryz.prog 17 [u8T c] (boolT (isBl c)) := by
  have hI := indexB_fn [32, 9, 13, 10] c
  have hB : decide (0 ≤ Lib.indexByte [32, 9, 13, 10] c) = isBl c := by
    have : ∀ n : Fin 256, decide (0 ≤ Lib.indexByte [32, 9, 13, 10] (UInt8.ofNat n.1)) = isBl (UInt8.ofNat n.1) := by decide +kernel
    have h := this ⟨c.toNat, c.toNat_lt⟩
    simpa using h
  rw [← hB]
  refine FnD.of1 (n := 6) [] fax_ok Tryz.func17 rfl rfl rfl (by rfl) (by kernel_rfl) (by intro _; rfl) fun Γ hA hbA => ?_
  (repeat ((conv => whnf); (first | refine exR ?_ | refine gd (enters_of Tryz.func18 rfl rfl) hI ?_)))
  exact ⟨eN, rS, fiO⟩
theorem bl2_fn (c : UInt8) : FnD Tryz.prog 19 [u8T c] (boolT (notNl c)) := by
  have hB : ((c.toNat : Int) != 10) = notNl c := by
    unfold notNl
    have := eqB c 10
    rw [bne, show ((c.toNat : Int) == 10) = decide (c = 10) from this]
    by_cases h : c = 10
    · rw [decide_eq_true h, decide_eq_false (by simp [h])]; rfl
    · rw [decide_eq_false h, decide_eq_true h]; rfl
  rw [← hB]
  refine FnD.of1 (n := 5) [] fax_ok Tryz.func19 rfl rfl rfl (by rfl) (by kernel_rfl) (by intro _; rfl) fun Γ hA hbA => ?_
  (repeat ((conv => whnf); refine exR ?_))
  exact ⟨eN, rS, fiO⟩
/-- How many at the beginning are so, whatever is asked. -/
theorem run_fn (f : FuncId) (p : UInt8 → Bool) (hE : ∀ args w, (callFunc f args).run Tryz.prog w = .ok (.enter f args) w) (hf : ∀ c, FnD Tryz.prog f [u8T c] (boolT (p c))) (s : List UInt8) (hlen : s.length ≤ 1000000000) : FnD Tryz.prog 16 [strT s, .fn f []] (intT (runN p s)) := by
  have hrl := runN_le p s
  refine FnD.of1 (n := 20) [] fax_ok Tryz.func16 rfl rfl rfl (by rfl) (by kernel_rfl) (by intro _; rfl) fun Γ hA hbA => ?_
  skip
  refine ev_loop [] fax_ok hA (by kernel_rfl) (fun i : Nat => i ≤ s.length ∧ runN p s = i + runN p (s.drop i)) (fun i => [(0, strT s), (1, .fn f []), (5, intT i)]) (fun _ => []) (fun i => s.length - i) 0 ⟨Nat.zero_le _, by simp⟩ fiE fiO ?_
  rintro i ⟨hi, hr⟩ - -
  by_cases h : i < s.length
  · have hg : s[i]? = some s[i] := List.getElem?_eq_getElem h
    rw [List.drop_eq_getElem_cons h, runN] at hr
    have hc := hf s[i]
    generalize s[i] = c at hg hr hc
    cases hp : p c with
    | true =>
      rw [hp] at hc hr
      rw [if_pos rfl] at hr
      (repeat ((conv => whnf); (first | refine exR ?_ | refine tT ?_ | refine exB _ rfl (by assumption) ?_)))
      refine gv hE hc ?_
      (repeat ((conv => whnf); (first | with_reducible refine exE _ (w_inc (by omega)) ?_ | refine tT ?_)))
      exact ⟨i + 1, ⟨by omega, by omega⟩, by omega, fiE, fiO⟩
    | false =>
      rw [hp] at hc hr
      rw [if_neg (by decide)] at hr
      rw [hr]
      (repeat ((conv => whnf); (first | refine exR ?_ | refine tT ?_ | refine exB _ rfl (by assumption) ?_)))
      refine gv hE hc ?_
      (repeat ((conv => whnf); (first | refine tT ?_ | refine tF ?_)))
      exact ⟨eN, rS, fiO⟩
  · obtain rfl : i = s.length := by omega
    rw [List.drop_length, runN] at hr
    rw [hr]
    (repeat ((conv => whnf); (first | refine exR ?_ | refine tF ?_)))
    exact ⟨eN, rS, fiO⟩
theorem run_dg (s : List UInt8) (h : s.length ≤ 1000000000) : FnD Tryz.prog 16 [strT s, .fn 24 []] (intT (runN isDgB s)) := run_fn _ _ (enters_of Tryz.func24 rfl rfl) digit_fn s h
theorem run_sg (s : List UInt8) (h : s.length ≤ 1000000000) : FnD Tryz.prog 16 [strT s, .fn 21 []] (intT (runN isSig s)) := run_fn _ _ (enters_of Tryz.func21 rfl rfl) sign_fn s h
theorem run_b1 (s : List UInt8) (h : s.length ≤ 1000000000) : FnD Tryz.prog 16 [strT s, .fn 17 []] (intT (runN isBl s)) := run_fn _ _ (enters_of Tryz.func17 rfl rfl) bl1_fn s h
theorem run_b2 (s : List UInt8) (h : s.length ≤ 1000000000) : FnD Tryz.prog 16 [strT s, .fn 19 []] (intT (runN notNl s)) := run_fn _ _ (enters_of Tryz.func19 rfl rfl) bl2_fn s h
theorem blank_fn (s : List UInt8) (h : s.length ≤ 1000000000) : FnD Tryz.prog 11 [strT s] (intT (blankN s)) := by
  have h1 := run_b1 s h
  have hle := runN_le isBl s
  unfold blankN
  generalize runN isBl s = n at *
  by_cases hn : n < s.length
  · obtain ⟨c, hg⟩ := get_ex hn
    have hc : ((c.toNat : Int) == 35) = decide (c = 35) := eqB c 35
    by_cases h35 : c = 35
    · rw [decide_eq_true h35] at hc
      have h2 := run_b2 (s.drop n) (by rw [List.length_drop]; omega)
      have hl2 := runN_le notNl (s.drop n)
      rw [List.length_drop] at hl2
      rw [if_pos (by rw [hg, h35])]
      generalize runN notNl (s.drop n) = k at *
      have hw : IntKind.i64.wrap ((n : Int) + (k : Int)) = ((n + k : Nat) : Int) := i_nat (by omega) (by omega)
      refine FnD.of1 (n := 23) [] fax_ok Tryz.func11 rfl rfl rfl (by rfl) (by kernel_rfl) (by intro _; rfl) fun Γ hA hbA => ?_
      (repeat ((conv => whnf); (first | with_reducible refine exE (α := Int) _ (by assumption) ?_ | refine exR ?_ | refine gd (enters_of Tryz.func16 rfl rfl) h1 ?_ | refine gd (enters_of Tryz.func16 rfl rfl) h2 ?_ | refine tT ?_ | refine exB _ rfl (by assumption) ?_ | refine nA _ rfl ?_)))
      exact ⟨eN, rS, fiO⟩
    · rw [decide_eq_false h35] at hc
      rw [if_neg (by rw [hg]; simp [h35])]
      refine FnD.of1 (n := 23) [] fax_ok Tryz.func11 rfl rfl rfl (by rfl) (by kernel_rfl) (by intro _; rfl) fun Γ hA hbA => ?_
      (repeat ((conv => whnf); (first | refine exR ?_ | refine gd (enters_of Tryz.func16 rfl rfl) h1 ?_ | refine tT ?_ | refine tF ?_ | refine exB _ rfl (by assumption) ?_)))
      exact ⟨eN, rS, fiO⟩
  · rw [if_neg (by rw [List.getElem?_eq_none (by omega)]; simp)]
    refine FnD.of1 (n := 23) [] fax_ok Tryz.func11 rfl rfl rfl (by rfl) (by kernel_rfl) (by intro _; rfl) fun Γ hA hbA => ?_
    (repeat ((conv => whnf); (first | refine exR ?_ | refine gd (enters_of Tryz.func16 rfl rfl) h1 ?_ | refine tF ?_)))
    exact ⟨eN, rS, fiO⟩
theorem esc_fn (c : UInt8) : FnD Tryz.prog 39 [u8T c] (.tup [u8T ((escM c).getD 0), boolT (escM c).isSome]) := by
  have h1 : ((c.toNat : Int) == 110) = decide (c = 110) := eqB c 110
  have h2 : ((c.toNat : Int) == 34) = decide (c = 34) := eqB c 34
  have h3 : ((c.toNat : Int) == 92) = decide (c = 92) := eqB c 92
  unfold escM
  by_cases q1 : c = 110
  · rw [decide_eq_true q1] at h1
    rw [if_pos q1]
    refine FnD.ofT (n := 11) [] fax_ok Tryz.func39 rfl rfl rfl (by rfl) (by kernel_rfl) (by intro _; rfl) fun Γ hA hbA => ?_
    (repeat ((conv => whnf); (first | refine exR ?_ | refine tT ?_)))
    exact ⟨eN, rS, fiO⟩
  rw [decide_eq_false q1] at h1
  rw [if_neg q1]
  by_cases q2 : c = 34
  · rw [decide_eq_true q2] at h2
    rw [if_pos (.inl q2)]
    refine FnD.ofT (n := 11) [] fax_ok Tryz.func39 rfl rfl rfl (by rfl) (by kernel_rfl) (by intro _; rfl) fun Γ hA hbA => ?_
    (repeat ((conv => whnf); (first | refine exR ?_ | refine tT ?_ | refine tF ?_)))
    exact ⟨eN, rS, fiO⟩
  rw [decide_eq_false q2] at h2
  by_cases q3 : c = 92
  · rw [decide_eq_true q3] at h3
    rw [if_pos (.inr q3)]
    refine FnD.ofT (n := 11) [] fax_ok Tryz.func39 rfl rfl rfl (by rfl) (by kernel_rfl) (by intro _; rfl) fun Γ hA hbA => ?_
    (repeat ((conv => whnf); (first | refine exR ?_ | refine tT ?_ | refine tF ?_)))
    exact ⟨eN, rS, fiO⟩
  rw [decide_eq_false q3] at h3
  rw [if_neg (fun h => h.elim q2 q3)]
  refine FnD.ofT (n := 11) [] fax_ok Tryz.func39 rfl rfl rfl (by rfl) (by kernel_rfl) (by intro _; rfl) fun Γ hA hbA => ?_
  (repeat ((conv => whnf); (first | refine exR ?_ | refine tF ?_)))
  exact ⟨eN, rS, fiO⟩
end Go.Proofs.YtngklbnodknadaaGreatDoor
end

section
namespace Go.Proofs.YtngklbnodknadaaGreatDoor
open Go.RowKit

def byD (l : List UInt8) : List D := l.map fun b => .v (.int .u8 b.toNat)
theorem byD_app (l m : List UInt8) : byD (l ++ m) = byD l ++ byD m := List.map_append
theorem by_lv {S : Sm} : ∀ {l : List UInt8} {xs : List Value}, RepLv S 1 (byD l) xs → xs = bytV l
  | [], _, h => by cases h; rfl
  | b :: l, _, h => by
    cases h with
    | cons h1 hk ht =>
      rw [by_lv ht]
      cases h1 with
      | cons h1 _ h2 => cases h2; cases h1; rfl
theorem conv_rep {P : Program} {S : Sm} {w : World} {s t e : TypeId} {l : List UInt8} {v : Value} (hs : P.underlying s = some (.slice e)) (he : P.underlying e = some (.int .u8)) (ht : P.underlying t = some .string) (hi : ∀ b o x, S b o = some x → w.cell? ⟨b, o, none⟩ = some x) (h : RepD S (.sl 1 (byD l)) v) : (convert s t v).run P w = .ok (.string ⟨l.toArray⟩) w := by
  cases h with
  | @sl _ _ p cap xs h1 hr hc hb hn =>
    obtain rfl := by_lv h1
    have hlen : (byD l).length = l.length := List.length_map _
    rw [hlen]
    obtain ⟨b, off, h2, h3⟩ := hr
    by_cases h0 : l = []
    · subst h0
      rw [show ([] : List UInt8).length = 0 from rfl, run_convert_bytes_string w s t e _ 0 cap hs he ht]
      cases p <;> simp [Conv.bytesToString, loadCells]
      all_goals rfl
    · have hp : 0 < l.length := List.length_pos_iff.2 h0
      rw [h2 (by simpa [bytV] using hp)]
      refine run_convert_bytes_back w s t e ⟨b, off, none⟩ cap l hs he ht fun j hj => ?_
      have h4 := hi b (off + j) (.int .u8 l[j].toNat) (by rw [h3 j (by simpa [bytV] using hj)]; simp [bytV, List.getElem?_eq_getElem hj])
      by_cases hj0 : j = 0
      · subst hj0; simpa [Addr.add] using h4
      · simpa [Addr.add, hj0] using h4
theorem conv_bytes {P : Program} {o : Oper} {σ : Nat → T} {s t e : TypeId} {x : Operand} {l : List UInt8} {id : Nat} (ho : o.op = .convert s t x) (hs : P.underlying s = some (.slice e)) (he : P.underlying e = some (.int .u8)) (ht : P.underlying t = some .string) (hx : opT σ x = .own 1 (byD l) id) : Tri P o σ [] (strT l) [] :=
  .val fun _ g _ ac w hrp _ hw => ⟨.string ⟨l.toArray⟩, by
    have e1 := hrp x (by rw [ho]; simp [Op.operands])
    rw [hx] at e1
    cases e1 with
    | own h1 _ _ =>
      unfold execOp; rw [ho]
      simp only
      rw [Sem.run_bind, conv_rep hs he ht hw.imm h1]; rfl, rep_v rfl⟩
def tokD (t : Tok) : D := .agg [.v (.int .i64 t.kind), .v (.string ⟨⟨t.text⟩⟩), .v (.int .i64 t.num), .v (.int .i64 t.at'), .v (.int .i64 t.to), .v (.int .i64 t.line)]
abbrev oneT (r : Tok × Int) : T := .tup [.d (tokD r.1), intT r.2]
theorem u74 : Tryz.prog.underlying 74 = some (.slice 5) := by kernel_rfl
theorem u5 : Tryz.prog.underlying 5 = some (.int .u8) := by kernel_rfl
theorem u9 : Tryz.prog.underlying 9 = some .string := by kernel_rfl
set_option maxRecDepth 100000 in
set_option maxHeartbeats 4000000 in
theorem quoted_fn (s : List UInt8) (hs : s.length ≤ 1000000) (h0 : 1 ≤ s.length) : FnD Tryz.prog 26 [strT s] (oneT (quoM s)) := by
  unfold quoM
  generalize hR : quoL (s.drop 1) [] 1 = R
  obtain ⟨⟨r1, r2, r3, r4, r5, r6⟩, r7⟩ := R
  unfold oneT tokD
  dsimp only
  refine FnD.ofT (n := 67) [5] fax_ok Tryz.func26 rfl rfl rfl (by rfl) (by kernel_rfl) (by intro _; rfl) fun Γ hA hbA => ?_
  (repeat ((conv => whnf); refine And.intro rfl ?_))
  refine ev_loop [] fax_ok hA (by kernel_rfl) (fun x : Nat × List UInt8 => 1 ≤ x.1 ∧ x.1 ≤ s.length ∧ x.2.length ≤ x.1 ∧ quoL (s.drop x.1) x.2 x.1 = (⟨r1, r2, r3, r4, r5, r6⟩, r7)) (fun x => [(0, strT s), (2, .ref 2 0), (4, .ref 4 0), (5, .own 1 (byD x.2) 5), (6, intT x.1)]) (fun x => [(2, .cells 28 [intT 0, strT [], intT 0, intT 0, intT 0, intT 0]), (4, .cells 28 [intT 5, strT [], intT 0, intT 0, intT 0, intT 0]), (5, .row 5 1 (byD x.2))]) (fun x => s.length - x.1) (1, []) ⟨Nat.le_refl _, h0, Nat.zero_le _, hR⟩ fiE fiO ?_
  rintro ⟨k, b⟩ ⟨hk1, hk2, hb, hr⟩ - -
  dsimp only at hk1 hk2 hb hr ⊢
  clear hR
  by_cases hk : k < s.length
  · obtain ⟨c, hg⟩ := get_ex hk
    have hc : s[k] = c := by rw [List.getElem?_eq_getElem hk] at hg; exact Option.some.inj hg
    rw [List.drop_eq_getElem_cons hk, hc, quoL_cons] at hr
    have hL : (byD b).length = b.length := List.length_map _
    have e34 : ((c.toNat : Int) == 34) = decide (c = 34) := eqB c 34
    have e92 : ((c.toNat : Int) == 92) = decide (c = 92) := eqB c 92
    by_cases h34 : c = 34
    · rw [decide_eq_true h34] at e34
      rw [if_pos h34] at hr
      injection hr with q1 q2
      injection q1 with q1 q3 q4 q5 q6 q7
      subst q1 q3 q4 q5 q6 q7
      by_cases h200 : 200 < b.length
      · rw [if_pos h200] at q2
        subst q2
        (repeat ((conv => whnf); (first | refine exR ?_ | refine tT ?_ | refine exB _ rfl (by assumption) ?_)))
        refine gen_nil (conv_bytes rfl u74 u5 u9 rfl) ?_
        (repeat ((conv => whnf); (first | with_reducible refine exE _ (w_inc (by omega)) ?_ | refine exR ?_ | refine tT ?_)))
        exact ⟨eN, rS, fiO⟩
      · rw [if_neg h200] at q2
        subst q2
        (repeat ((conv => whnf); (first | refine exR ?_ | refine tT ?_ | refine exB _ rfl (by assumption) ?_)))
        refine gen_nil (conv_bytes rfl u74 u5 u9 rfl) ?_
        (repeat ((conv => whnf); (first | with_reducible refine exE _ (w_inc (by omega)) ?_ | refine exR ?_ | refine tF ?_)))
        exact ⟨eN, rS, fiO⟩
    rw [decide_eq_false h34] at e34
    rw [if_neg h34] at hr
    by_cases h32 : c.toNat < 32
    · rw [if_pos h32] at hr
      injection hr with q1 q2
      injection q1 with q1 q3 q4 q5 q6 q7
      subst q1 q2 q3 q4 q5 q6 q7
      (repeat ((conv => whnf); (first | refine exR ?_ | refine tT ?_ | refine tF ?_ | refine exB _ rfl (by assumption) ?_)))
      exact ⟨eN, rS, fiO⟩
    rw [if_neg h32] at hr
    by_cases h92 : c = 92
    · rw [decide_eq_true h92] at e92
      rw [if_pos h92] at hr
      by_cases hk' : k + 1 < s.length
      · obtain ⟨x, hg2⟩ := get_ex hk'
        have hx : s[k + 1] = x := by rw [List.getElem?_eq_getElem hk'] at hg2; exact Option.some.inj hg2
        rw [List.drop_eq_getElem_cons hk', hx] at hr
        dsimp only at hr
        have hesc := esc_fn x
        cases hy : escM x with
        | none =>
          rw [hy] at hr hesc
          dsimp only at hr
          injection hr with q1 q2
          injection q1 with q1 q3 q4 q5 q6 q7
          subst q1 q2 q3 q4 q5 q6 q7
          (repeat ((conv => whnf); (first | with_reducible refine exE _ (w_inc (by omega)) ?_ | refine exR ?_ | refine gd (enters_of Tryz.func39 rfl rfl) hesc ?_ | refine tT ?_ | refine tF ?_ | refine exB _ rfl (by assumption) ?_)))
          exact ⟨eN, rS, fiO⟩
        | some y =>
          rw [hy] at hr hesc
          dsimp only at hr
          have ha : byD (b ++ [y]) = byD b ++ [.v (.int .u8 y.toNat)] := by rw [byD_app]; rfl
          generalize byD b = L at *
          (repeat ((conv => whnf); (first | with_reducible refine exE _ (w_inc (by omega)) ?_ | refine exR ?_ | refine gd (enters_of Tryz.func39 rfl rfl) hesc ?_ | refine tT ?_ | refine tF ?_ | refine And.intro rfl ?_ | refine lQ ?_ | refine exB _ rfl (by assumption) ?_)))
          exact ⟨(k + 2, b ++ [y]), ⟨by dsimp only; omega, by dsimp only; omega, by simp; omega, hr⟩, by dsimp only; omega, (by dsimp only; rw [ha]; exact fiE), (by dsimp only; rw [ha]; exact fiO)⟩
      · rw [List.drop_of_length_le (by omega)] at hr
        dsimp only at hr
        injection hr with q1 q2
        injection q1 with q1 q3 q4 q5 q6 q7
        subst q1 q2 q3 q4 q5 q6 q7
        have heq : (((k : Int) + 1) == (s.length : Int)) = true := by rw [beq_iff_eq]; omega
        (repeat ((conv => whnf); (first | with_reducible refine exE _ (w_inc (by omega)) ?_ | refine exR ?_ | refine tT ?_ | refine tF ?_ | refine exB _ rfl (by assumption) ?_)))
        exact ⟨eN, rS, fiO⟩
    · rw [decide_eq_false h92] at e92
      rw [if_neg h92] at hr
      have ha : byD (b ++ [c]) = byD b ++ [.v (.int .u8 c.toNat)] := by rw [byD_app]; rfl
      generalize byD b = L at *
      (repeat ((conv => whnf); (first | with_reducible refine exE _ (w_inc (by omega)) ?_ | refine exR ?_ | refine tT ?_ | refine tF ?_ | refine And.intro rfl ?_ | refine lQ ?_ | refine exB _ rfl (by assumption) ?_)))
      exact ⟨(k + 1, b ++ [c]), ⟨by dsimp only; omega, by dsimp only; omega, by simp; omega, hr⟩, by dsimp only; omega, (by dsimp only; rw [ha]; exact fiE), (by dsimp only; rw [ha]; exact fiO)⟩
  · obtain rfl : k = s.length := by omega
    rw [List.drop_length, quoL_nil] at hr
    injection hr with q1 q2
    injection q1 with q1 q3 q4 q5 q6 q7
    subst q1 q2 q3 q4 q5 q6 q7
    (repeat ((conv => whnf); (first | refine exR ?_ | refine tF ?_)))
    exact ⟨eN, rS, fiO⟩
end Go.Proofs.YtngklbnodknadaaGreatDoor
end

section
namespace Go.Proofs.YtngklbnodknadaaGreatDoor
open Go.RowKit

theorem decFrom_eq : ∀ (l : List UInt8) (n : Nat), (∀ c ∈ l, isDg c) → Lib.decFrom n l = some (decV l n)
  | [], n, _ => rfl
  | c :: l, n, h => by
    have hc := h c (by simp)
    rw [Lib.decFrom, show Lib.digitVal c = some (c.toNat - 48) from if_pos hc, decV]
    exact decFrom_eq l _ fun x hx => h x (by simp [hx])
theorem atoi_eq {l : List UInt8} (h : ∀ c ∈ l, isDg c) (h1 : l ≠ []) : Lib.atoi l = some ((decV l 0 : Nat) : Int) := by
  cases l with
  | nil => exact absurd rfl h1
  | cons c l =>
    have hc := h c (by simp)
    unfold isDg at hc
    rw [Lib.atoi, if_neg (by intro e; have := eq_of_beq e; rw [this] at hc; revert hc; decide), if_neg (by intro e; have := eq_of_beq e; rw [this] at hc; revert hc; decide)]
    unfold Lib.decNat
    rw [if_neg (by simp), decFrom_eq _ _ h]
    rfl
theorem atoi_fn (s : List UInt8) (hl : s.length ≤ 18) (h : ∀ c ∈ s, isDg c) (h1 : s ≠ []) : FnD Tryz.prog 38 [strT s] (.tup [intT (decV s 0 : Nat), .d (.v .nilIface)]) := by
  intro w g xs ht hi hr
  cases hr with
  | cons h2 hr =>
    cases hr
    cases inv_v h2
    refine (Any.strconv_Atoi Tryz.atoi ⟨s.toArray⟩ ((decV s 0 : Nat) : Int) (by rw [str_size]; exact hl) (by simpa using atoi_eq h h1) w).mono fun e w' ⟨e1, t, e2⟩ => ?_
    subst e1 e2
    have hb := Lib.bytesWorld_below w (Tryz.atoi_ren.t 5) t
    refine ⟨_, g.S, rfl, SLe.refl _, fun _ _ _ _ => rfl, fun b o x hx => ?_, .tup (.cons (.d (.v rfl)) (.cons (.d (.v rfl)) .nil)), hb⟩
    rw [hb.cell (p := ⟨b, o, none⟩) (World.block_lt_of_cell? w ⟨b, o, none⟩ (hi b o x hx))]
    exact hi b o x hx
theorem t_bits {o : Oper} {σ : Nat → T} {x : Operand} {m : Nat} {ts : Array TypeId} (ho : o.op = .call { callee := .value (.func 37), args := #[x], argTypes := ts }) (hx : opT σ x = f64T m) : Tri Tryz.prog o σ [] (.d (.v (.int .u64 (m : Int)))) [] :=
  t_ext ho (Tryz.func37) rfl rfl rfl rfl hx (fun _ => rfl) rfl
end Go.Proofs.YtngklbnodknadaaGreatDoor
end

section
namespace Go.Proofs.YtngklbnodknadaaGreatDoor
open Go.RowKit

/-- Block B of W holds the cells cs. -/
def Blk (W : World) (B : Nat) (cs : Array Value) (t : TypeId) : Prop := W.heap[B]? = some (.cells cs t (0, 0))
section
variable {W W' : World} {B : Nat} {cs : Array Value} {t : TypeId}
theorem Blk.lt (h : Blk W B cs t) : B < W.heap.size := (Array.getElem?_eq_some_iff.1 h).1
theorem Blk.cell (h : Blk W B cs t) (k : Nat) : W.cell? ⟨B, k, none⟩ = cs[k]? := by
  unfold World.cell?
  dsimp only
  rw [show W.heap[B]? = _ from h]
  rfl
theorem Blk.frozen (h : Blk W B cs t) (k : Nat) : W.frozen? ⟨B, k, none⟩ = false := by simp [World.frozen?, show W.heap[B]? = _ from h]
theorem Blk.mk_ (W : World) (cs : Array Value) (t : TypeId) (h : W.heap.size = B) : Blk (W.alloc (.cells cs t)) B cs t := by
  subst h
  exact World.alloc_heap_new W _
theorem Blk.alloc (h : Blk W B cs t) (o : Obj) : Blk (W.alloc o) B cs t := (Below.heap_alloc W o B h.lt).trans h
theorem Blk.drew (h : Blk W B cs t) : Blk W.drew B cs t := h
theorem Blk.below (h : Blk W B cs t) {n : Nat} (hw : Below n W W') (hb : B < n) : Blk W' B cs t := (hw.block B hb).trans h
theorem Blk.next (h : Blk W B cs t) (hw : Below W.heap.size W W') : Blk W' B cs t := h.below hw h.lt
theorem Blk.own {β : Type} (f : β → Array Value) : Own (fun s W => Blk W B (f s) t) := fun s X Y row hs hg hrow => by
  have hs' : X.heap[B]? = some (.cells (f s) t (0, 0)) := hs
  refine (hg.block B (Array.getElem?_eq_some_iff.1 hs').1 fun e' => ?_).trans hs'
  obtain ⟨o, ho, hc⟩ := hrow B e'.symm
  rw [hs'] at ho
  cases ho
  cases hc
theorem Blk.set (h : Blk W B cs t) (k : Nat) (v : Value) : Blk (W.setCell ⟨B, k, none⟩ v) B (cs.setIfInBounds k v) t := by
  obtain ⟨hlt, hk⟩ := Array.getElem?_eq_some_iff.1 h
  show (W.heap.modify B _)[B]? = _
  rw [Array.getElem?_eq_getElem (by rw [Array.size_modify]; exact hlt), Array.getElem_modify_self, hk]
  rfl
theorem Blk.other (h : Blk W B cs t) {C k : Nat} (v : Value) (hne : C ≠ B) : Blk (W.setCell ⟨C, k, none⟩ v) B cs t := by
  obtain ⟨hlt, hk⟩ := Array.getElem?_eq_some_iff.1 h
  show (W.heap.modify C _)[B]? = _
  rw [Array.getElem?_eq_getElem (by rw [Array.size_modify]; exact hlt), Array.getElem_modify_of_ne hne, hk]
end
theorem keeps_of_below {W W' : World} (h : Below W.heap.size W W') (B : Nat) : KeepsFrom B W W' :=
  ⟨h.size, fun k _ _ hk _ => (h.block k (Array.getElem?_eq_some_iff.1 hk).1).trans hk⟩
end Go.Proofs.YtngklbnodknadaaGreatDoor
end
