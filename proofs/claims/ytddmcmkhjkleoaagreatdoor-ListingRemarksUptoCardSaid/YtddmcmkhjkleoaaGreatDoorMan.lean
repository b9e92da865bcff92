/-
  Shelf, Lib, ShelfB, Ss, St, Wm, Sn, So, Sp, in one.
-/
import Derived.Ground.NamesProg
import Derived.Shelf.Lays
import Derived.Shelf.LaysM
import Derived.Test.YtddmcmkhjkleoaaGreatDoorProg
import Derived.Test.YtddmcmkhjkleoaaGreatDoorMak
import Derived.Shelf.Strings.Trim
import Derived.Shelf.Small.Strs
import Derived.Shelf.Strconv.Itoa3
import Derived.Sort.Grow
import Derived.Shelf.LaysC
import Derived.Test.YtddmcmkhjkleoaaGreatDoorMal
import Derived.Shelf.Strings.Prefix
import Derived.Shelf.Small.Wraps
import Derived.Shelf.Strings.Search3
import Derived.Shelf.Strings.Cut
import Derived.Lib.IndexMore
import Derived.Lib.Small
import Derived.Test.YtddmcmkhjkleoaaGreatDoorMam
import Derived.Lib.ItoaLen
section
namespace Go.Proofs
open Go.Shelf
def Tryz.trimL_ren : Go.Shelf.Ren := ⟨fun | 161 => 36 | 231 => 64 | 227 => 65 | 233 => 66 | 235 => 67 | 228 => 90 | 197 => 62 | 151 => 91 | 260 => 88 | 152 => 115 | 137 => 38 | 119 => 130 | 224 => 113 | 225 => 112 | 217 => 69 | 266 => 93 | n => n, fun | 9 => 9 | 4 => 4 | 3 => 3 | 5 => 5 | 117 => 118 | 116 => 117 | 0 => 0 | 124 => 121 | 105 => 112 | 21 => 21 | 119 => 106 | 46 => 75 | 139 => 176 | 138 => 175 | n => n, fun | 3 => 2 | 4 => 3 | n => n⟩
theorem Tryz.trimL : Go.Proofs.Lays.n161 Tryz.prog Tryz.trimL_ren := {
  mixed := by kernel_rfl
  f119 := Tryz.func130.trans (congrArg some (by kernel_rfl))
  f137 := Tryz.func38.trans (congrArg some (by kernel_rfl))
  f151 := Tryz.func91.trans (congrArg some (by kernel_rfl))
  f152 := Tryz.func115.trans (congrArg some (by kernel_rfl))
  f161 := Tryz.func36.trans (congrArg some (by kernel_rfl))
  f197 := Tryz.func62.trans (congrArg some (by kernel_rfl))
  f217 := Tryz.func69.trans (congrArg some (by kernel_rfl))
  f224 := Tryz.func113.trans (congrArg some (by kernel_rfl))
  f225 := Tryz.func112.trans (congrArg some (by kernel_rfl))
  f227 := Tryz.func65.trans (congrArg some (by kernel_rfl))
  f228 := Tryz.func90.trans (congrArg some (by kernel_rfl))
  f231 := Tryz.func64.trans (congrArg some (by kernel_rfl))
  f233 := Tryz.func66.trans (congrArg some (by kernel_rfl))
  f235 := Tryz.func67.trans (congrArg some (by kernel_rfl))
  f260 := Tryz.func88.trans (congrArg some (by kernel_rfl))
  f266 := Tryz.func93.trans (congrArg some (by kernel_rfl))
  t0 := Tryz.underlying0
  a0 := Tryz.isAgg0
  z0 := Tryz.sizeOf0
  v0 := Tryz.zeroValue0
  t3 := Tryz.underlying3
  a3 := Tryz.isAgg3
  z3 := Tryz.sizeOf3
  v3 := Tryz.zeroValue3
  t4 := Tryz.underlying4
  a4 := Tryz.isAgg4
  z4 := Tryz.sizeOf4
  v4 := Tryz.zeroValue4
  t5 := Tryz.underlying5
  a5 := Tryz.isAgg5
  z5 := Tryz.sizeOf5
  v5 := Tryz.zeroValue5
  t9 := Tryz.underlying9
  a9 := Tryz.isAgg9
  z9 := Tryz.sizeOf9
  v9 := Tryz.zeroValue9
  t21 := Tryz.underlying21
  a21 := Tryz.isAgg21
  z21 := Tryz.sizeOf21
  v21 := Tryz.zeroValue21
  t46 := Tryz.underlying75
  a46 := Tryz.isAgg75
  z46 := Tryz.sizeOf75
  v46 := Tryz.zeroValue75
  t105 := Tryz.underlying112
  a105 := Tryz.isAgg112
  z105 := Tryz.sizeOf112
  v105 := Tryz.zeroValue112
  t116 := Tryz.underlying117
  a116 := Tryz.isAgg117
  z116 := Tryz.sizeOf117
  t117 := Tryz.underlying118
  a117 := Tryz.isAgg118
  z117 := Tryz.sizeOf118
  v117 := Tryz.zeroValue118
  t119 := Tryz.underlying106
  a119 := Tryz.isAgg106
  z119 := Tryz.sizeOf106
  t124 := Tryz.underlying121
  a124 := Tryz.isAgg121
  z124 := Tryz.sizeOf121
  v124 := Tryz.zeroValue121
  t138 := Tryz.underlying175
  a138 := Tryz.isAgg175
  z138 := Tryz.sizeOf175
  v138 := Tryz.zeroValue175
  t139 := Tryz.underlying176
  a139 := Tryz.isAgg176
  z139 := Tryz.sizeOf176
  v139 := Tryz.zeroValue176
  g3 := by kernel_rfl
  g4 := by kernel_rfl }
def Tryz.trim_ren : Go.Shelf.Ren := ⟨fun | 160 => 98 | 232 => 120 | 231 => 64 | 227 => 65 | 234 => 121 | 233 => 66 | 236 => 122 | 235 => 67 | 228 => 90 | 271 => 137 | 151 => 91 | 197 => 62 | 120 => 144 | 152 => 115 | 260 => 88 | 137 => 38 | 119 => 130 | 224 => 113 | 225 => 112 | 217 => 69 | 266 => 93 | n => n, fun | 9 => 9 | 4 => 4 | 3 => 3 | 5 => 5 | 117 => 118 | 116 => 117 | 0 => 0 | 124 => 121 | 21 => 21 | 105 => 112 | 46 => 75 | 119 => 106 | 139 => 176 | 138 => 175 | n => n, fun | 3 => 2 | 4 => 3 | n => n⟩
theorem Tryz.trim : Go.Proofs.Lays.n160 Tryz.prog Tryz.trim_ren := {
  mixed := by kernel_rfl
  f119 := Tryz.func130.trans (congrArg some (by kernel_rfl))
  f120 := Tryz.func144.trans (congrArg some (by kernel_rfl))
  f137 := Tryz.func38.trans (congrArg some (by kernel_rfl))
  f151 := Tryz.func91.trans (congrArg some (by kernel_rfl))
  f152 := Tryz.func115.trans (congrArg some (by kernel_rfl))
  f160 := Tryz.func98.trans (congrArg some (by kernel_rfl))
  f197 := Tryz.func62.trans (congrArg some (by kernel_rfl))
  f217 := Tryz.func69.trans (congrArg some (by kernel_rfl))
  f224 := Tryz.func113.trans (congrArg some (by kernel_rfl))
  f225 := Tryz.func112.trans (congrArg some (by kernel_rfl))
  f227 := Tryz.func65.trans (congrArg some (by kernel_rfl))
  f228 := Tryz.func90.trans (congrArg some (by kernel_rfl))
  f231 := Tryz.func64.trans (congrArg some (by kernel_rfl))
  f232 := Tryz.func120.trans (congrArg some (by kernel_rfl))
  f233 := Tryz.func66.trans (congrArg some (by kernel_rfl))
  f234 := Tryz.func121.trans (congrArg some (by kernel_rfl))
  f235 := Tryz.func67.trans (congrArg some (by kernel_rfl))
  f236 := Tryz.func122.trans (congrArg some (by kernel_rfl))
  f260 := Tryz.func88.trans (congrArg some (by kernel_rfl))
  f266 := Tryz.func93.trans (congrArg some (by kernel_rfl))
  f271 := Tryz.func137.trans (congrArg some (by kernel_rfl))
  t0 := Tryz.underlying0
  a0 := Tryz.isAgg0
  z0 := Tryz.sizeOf0
  v0 := Tryz.zeroValue0
  t3 := Tryz.underlying3
  a3 := Tryz.isAgg3
  z3 := Tryz.sizeOf3
  v3 := Tryz.zeroValue3
  t4 := Tryz.underlying4
  a4 := Tryz.isAgg4
  z4 := Tryz.sizeOf4
  v4 := Tryz.zeroValue4
  t5 := Tryz.underlying5
  a5 := Tryz.isAgg5
  z5 := Tryz.sizeOf5
  v5 := Tryz.zeroValue5
  t9 := Tryz.underlying9
  a9 := Tryz.isAgg9
  z9 := Tryz.sizeOf9
  v9 := Tryz.zeroValue9
  t21 := Tryz.underlying21
  a21 := Tryz.isAgg21
  z21 := Tryz.sizeOf21
  v21 := Tryz.zeroValue21
  t46 := Tryz.underlying75
  a46 := Tryz.isAgg75
  z46 := Tryz.sizeOf75
  v46 := Tryz.zeroValue75
  t105 := Tryz.underlying112
  a105 := Tryz.isAgg112
  z105 := Tryz.sizeOf112
  v105 := Tryz.zeroValue112
  t116 := Tryz.underlying117
  a116 := Tryz.isAgg117
  z116 := Tryz.sizeOf117
  t117 := Tryz.underlying118
  a117 := Tryz.isAgg118
  z117 := Tryz.sizeOf118
  v117 := Tryz.zeroValue118
  t119 := Tryz.underlying106
  a119 := Tryz.isAgg106
  z119 := Tryz.sizeOf106
  t124 := Tryz.underlying121
  a124 := Tryz.isAgg121
  z124 := Tryz.sizeOf121
  v124 := Tryz.zeroValue121
  t138 := Tryz.underlying175
  a138 := Tryz.isAgg175
  z138 := Tryz.sizeOf175
  v138 := Tryz.zeroValue175
  t139 := Tryz.underlying176
  a139 := Tryz.isAgg176
  z139 := Tryz.sizeOf176
  v139 := Tryz.zeroValue176
  g3 := by kernel_rfl
  g4 := by kernel_rfl }
def Tryz.indexB_ren : Go.Shelf.Ren := ⟨fun | 137 => 38 | 217 => 69 | 266 => 93 | n => n, fun | 9 => 9 | 5 => 5 | 3 => 3 | n => n, fun | n => n⟩
theorem Tryz.indexB : Go.Proofs.Lays.n137 Tryz.prog Tryz.indexB_ren := {
  mixed := by kernel_rfl
  f137 := Tryz.func38.trans (congrArg some (by kernel_rfl))
  f217 := Tryz.func69.trans (congrArg some (by kernel_rfl))
  f266 := Tryz.func93.trans (congrArg some (by kernel_rfl))
  t3 := Tryz.underlying3
  a3 := Tryz.isAgg3
  z3 := Tryz.sizeOf3
  v3 := Tryz.zeroValue3
  t5 := Tryz.underlying5
  a5 := Tryz.isAgg5
  z5 := Tryz.sizeOf5
  v5 := Tryz.zeroValue5
  t9 := Tryz.underlying9
  a9 := Tryz.isAgg9
  z9 := Tryz.sizeOf9
  v9 := Tryz.zeroValue9 }
def Tryz.itoa_ren : Go.Shelf.Ren := ⟨fun | 171 => 34 | 243 => 60 | 246 => 87 | 283 => 108 | 284 => 109 | 285 => 110 | 286 => 111 | 129 => 125 | 317 => 124 | 318 => 126 | 319 => 127 | 320 => 128 | 337 => 138 | 338 => 139 | n => n, fun | 3 => 3 | 9 => 9 | 2 => 2 | 4 => 4 | 171 => 169 | 0 => 0 | 53 => 150 | 37 => 35 | 5 => 5 | 173 => 172 | 212 => 184 | 51 => 141 | 20 => 20 | 213 => 185 | 46 => 75 | 232 => 201 | 233 => 202 | n => n, fun | 17 => 6 | 18 => 9 | 19 => 10 | n => n⟩
theorem Tryz.itoa : Go.Proofs.LaysM.n171 Tryz.prog Tryz.itoa_ren := {
  mixed := by kernel_rfl
  f129 := Tryz.func125.trans (congrArg some (by kernel_rfl))
  f171 := Tryz.func34.trans (congrArg some (by kernel_rfl))
  f243 := Tryz.func60.trans (congrArg some (by kernel_rfl))
  f246 := Tryz.func87.trans (congrArg some (by kernel_rfl))
  f283 := Tryz.func108.trans (congrArg some (by kernel_rfl))
  f284 := Tryz.func109.trans (congrArg some (by kernel_rfl))
  f285 := Tryz.func110.trans (congrArg some (by kernel_rfl))
  f286 := Tryz.func111.trans (congrArg some (by kernel_rfl))
  f317 := Tryz.func124.trans (congrArg some (by kernel_rfl))
  f318 := Tryz.func126.trans (congrArg some (by kernel_rfl))
  f319 := Tryz.func127.trans (congrArg some (by kernel_rfl))
  f320 := Tryz.func128.trans (congrArg some (by kernel_rfl))
  f337 := Tryz.func138.trans (congrArg some (by kernel_rfl))
  f338 := Tryz.func139.trans (congrArg some (by kernel_rfl))
  t0 := Tryz.underlying0
  a0 := Tryz.isAgg0
  z0 := Tryz.sizeOf0
  v0 := Tryz.zeroValue0
  t2 := Tryz.underlying2
  a2 := Tryz.isAgg2
  z2 := Tryz.sizeOf2
  v2 := Tryz.zeroValue2
  t3 := Tryz.underlying3
  a3 := Tryz.isAgg3
  z3 := Tryz.sizeOf3
  v3 := Tryz.zeroValue3
  t4 := Tryz.underlying4
  a4 := Tryz.isAgg4
  z4 := Tryz.sizeOf4
  v4 := Tryz.zeroValue4
  t5 := Tryz.underlying5
  a5 := Tryz.isAgg5
  z5 := Tryz.sizeOf5
  v5 := Tryz.zeroValue5
  t9 := Tryz.underlying9
  a9 := Tryz.isAgg9
  z9 := Tryz.sizeOf9
  v9 := Tryz.zeroValue9
  t20 := Tryz.underlying20
  a20 := Tryz.isAgg20
  z20 := Tryz.sizeOf20
  v20 := Tryz.zeroValue20
  t37 := Tryz.underlying35
  a37 := Tryz.isAgg35
  z37 := Tryz.sizeOf35
  v37 := Tryz.zeroValue35
  t46 := Tryz.underlying75
  a46 := Tryz.isAgg75
  z46 := Tryz.sizeOf75
  v46 := Tryz.zeroValue75
  t51 := Tryz.underlying141
  a51 := Tryz.isAgg141
  z51 := Tryz.sizeOf141
  v51 := Tryz.zeroValue141
  t53 := Tryz.underlying150
  a53 := Tryz.isAgg150
  z53 := Tryz.sizeOf150
  v53 := Tryz.zeroValue150
  t171 := Tryz.underlying169
  a171 := Tryz.isAgg169
  z171 := Tryz.sizeOf169
  v171 := Tryz.zeroValue169
  t173 := Tryz.underlying172
  a173 := Tryz.isAgg172
  z173 := Tryz.sizeOf172
  v173 := Tryz.zeroValue172
  t212 := Tryz.underlying184
  a212 := Tryz.isAgg184
  z212 := Tryz.sizeOf184
  v212 := Tryz.zeroValue184
  t213 := Tryz.underlying185
  a213 := Tryz.isAgg185
  z213 := Tryz.sizeOf185
  t232 := Tryz.underlying201
  a232 := Tryz.isAgg201
  z232 := Tryz.sizeOf201
  v232 := Tryz.zeroValue201
  t233 := Tryz.underlying202
  a233 := Tryz.isAgg202
  z233 := Tryz.sizeOf202
  v233 := Tryz.zeroValue202
  g17 := by kernel_rfl
  g18 := by kernel_rfl
  g19 := by kernel_rfl
  i0 := by kernel_rfl
  i2 := by kernel_rfl
  i3 := by kernel_rfl
  i4 := by kernel_rfl
  i5 := by kernel_rfl
  i9 := by kernel_rfl
  i20 := by kernel_rfl
  i37 := by kernel_rfl
  i46 := by kernel_rfl
  i51 := by kernel_rfl
  i53 := by kernel_rfl
  i171 := by kernel_rfl
  i173 := by kernel_rfl
  i212 := by kernel_rfl
  i232 := by kernel_rfl
  i233 := by kernel_rfl
  m17 := by kernel_rfl
  m18 := by kernel_rfl
  m19 := by kernel_rfl }
def Tryz.fields_ren : Go.Shelf.Ren := ⟨fun | 157 => 29 | 229 => 55 | 199 => 56 | 261 => 86 | 311 => 106 | 312 => 107 | n => n, fun | 9 => 9 | 31 => 24 | 3 => 3 | 5 => 5 | 4 => 4 | 119 => 106 | 0 => 0 | 40 => 108 | 152 => 138 | 21 => 21 | 154 => 140 | 51 => 141 | 141 => 143 | 196 => 161 | 193 => 158 | 198 => 164 | 49 => 162 | 194 => 159 | 201 => 167 | 226 => 181 | 46 => 75 | 227 => 182 | n => n, fun | 0 => 0 | 6 => 1 | n => n⟩
theorem Tryz.fields : Go.Proofs.LaysM.n157 Tryz.prog Tryz.fields_ren := {
  mixed := by kernel_rfl
  f157 := Tryz.func29.trans (congrArg some (by kernel_rfl))
  f199 := Tryz.func56.trans (congrArg some (by kernel_rfl))
  f229 := Tryz.func55.trans (congrArg some (by kernel_rfl))
  f261 := Tryz.func86.trans (congrArg some (by kernel_rfl))
  f311 := Tryz.func106.trans (congrArg some (by kernel_rfl))
  f312 := Tryz.func107.trans (congrArg some (by kernel_rfl))
  t0 := Tryz.underlying0
  a0 := Tryz.isAgg0
  z0 := Tryz.sizeOf0
  v0 := Tryz.zeroValue0
  t3 := Tryz.underlying3
  a3 := Tryz.isAgg3
  z3 := Tryz.sizeOf3
  v3 := Tryz.zeroValue3
  t4 := Tryz.underlying4
  a4 := Tryz.isAgg4
  z4 := Tryz.sizeOf4
  v4 := Tryz.zeroValue4
  t5 := Tryz.underlying5
  a5 := Tryz.isAgg5
  z5 := Tryz.sizeOf5
  v5 := Tryz.zeroValue5
  t9 := Tryz.underlying9
  a9 := Tryz.isAgg9
  z9 := Tryz.sizeOf9
  v9 := Tryz.zeroValue9
  t21 := Tryz.underlying21
  a21 := Tryz.isAgg21
  z21 := Tryz.sizeOf21
  v21 := Tryz.zeroValue21
  t31 := Tryz.underlying24
  a31 := Tryz.isAgg24
  z31 := Tryz.sizeOf24
  v31 := Tryz.zeroValue24
  t40 := Tryz.underlying108
  a40 := Tryz.isAgg108
  z40 := Tryz.sizeOf108
  v40 := Tryz.zeroValue108
  t46 := Tryz.underlying75
  a46 := Tryz.isAgg75
  z46 := Tryz.sizeOf75
  v46 := Tryz.zeroValue75
  t49 := Tryz.underlying162
  a49 := Tryz.isAgg162
  z49 := Tryz.sizeOf162
  v49 := Tryz.zeroValue162
  t51 := Tryz.underlying141
  a51 := Tryz.isAgg141
  z51 := Tryz.sizeOf141
  v51 := Tryz.zeroValue141
  t119 := Tryz.underlying106
  a119 := Tryz.isAgg106
  z119 := Tryz.sizeOf106
  t141 := Tryz.underlying143
  a141 := Tryz.isAgg143
  z141 := Tryz.sizeOf143
  v141 := Tryz.zeroValue143
  t152 := Tryz.underlying138
  a152 := Tryz.isAgg138
  z152 := Tryz.sizeOf138
  v152 := Tryz.zeroValue138
  t154 := Tryz.underlying140
  a154 := Tryz.isAgg140
  z154 := Tryz.sizeOf140
  v154 := Tryz.zeroValue140
  t193 := Tryz.underlying158
  a193 := Tryz.isAgg158
  z193 := Tryz.sizeOf158
  v193 := Tryz.zeroValue158
  t194 := Tryz.underlying159
  a194 := Tryz.isAgg159
  z194 := Tryz.sizeOf159
  v194 := Tryz.zeroValue159
  t196 := Tryz.underlying161
  a196 := Tryz.isAgg161
  z196 := Tryz.sizeOf161
  v196 := Tryz.zeroValue161
  t198 := Tryz.underlying164
  a198 := Tryz.isAgg164
  z198 := Tryz.sizeOf164
  v198 := Tryz.zeroValue164
  t201 := Tryz.underlying167
  a201 := Tryz.isAgg167
  z201 := Tryz.sizeOf167
  v201 := Tryz.zeroValue167
  t226 := Tryz.underlying181
  a226 := Tryz.isAgg181
  z226 := Tryz.sizeOf181
  v226 := Tryz.zeroValue181
  t227 := Tryz.underlying182
  a227 := Tryz.isAgg182
  z227 := Tryz.sizeOf182
  v227 := Tryz.zeroValue182
  g0 := by kernel_rfl
  g6 := by kernel_rfl
  i0 := by kernel_rfl
  i3 := by kernel_rfl
  i4 := by kernel_rfl
  i5 := by kernel_rfl
  i9 := by kernel_rfl
  i21 := by kernel_rfl
  i31 := by kernel_rfl
  i40 := by kernel_rfl
  i46 := by kernel_rfl
  i49 := by kernel_rfl
  i51 := by kernel_rfl
  i141 := by kernel_rfl
  i152 := by kernel_rfl
  i154 := by kernel_rfl
  i193 := by kernel_rfl
  i194 := by kernel_rfl
  i196 := by kernel_rfl
  i198 := by kernel_rfl
  i201 := by kernel_rfl
  i226 := by kernel_rfl
  i227 := by kernel_rfl
  m0 := by kernel_rfl
  m6 := by kernel_rfl }
end Go.Proofs
end

section
namespace Go.Proofs.YtddmcmkhjkleoaaGreatDoor
open Go.RowKit

theorem bl_drewN (w : World) (n : Nat) : Below w.heap.size w (w.drewN n) := ⟨rfl, rfl, rfl, Nat.le_refl _, fun _ _ => rfl⟩
theorem bl_grow (w : World) (os : Array Obj) : Below w.heap.size w (Go.Sort.grow w os) := ⟨rfl, rfl, rfl, by simp [Go.Sort.grow], fun k hk => by simp [Go.Sort.grow, Array.getElem?_append_left hk]⟩
def trimM (s : List UInt8) : List UInt8 := s.dropWhile (· == 32)
theorem trimL_fn (s : List UInt8) : FnD Tryz.prog 36 [strT s, strT [32]] (strT (trimM s)) := FnD.flat rfl fun w g vs _ hr => by
  cases hr with | cons h1 hr => cases hr with | cons h2 hr => cases hr; cases inv_v h1; cases inv_v h2; exact (Any.strings_TrimLeft_one Tryz.trimL ⟨s.toArray⟩ 32 (by decide) w).mono fun e w' ⟨h1, h2⟩ => by subst h1 h2; exact ⟨rfl, Below.refl _ _⟩
theorem trim_fn (s : List UInt8) (hs : s.length ≤ 9223372036854775807) : FnD Tryz.prog 98 [strT s, strT [32]] (strT (Lib.trimB s 32)) := FnD.flat rfl fun w g vs _ hr => by
  cases hr with | cons h1 hr => cases hr with | cons h2 hr => cases hr; cases inv_v h1; cases inv_v h2; exact (Any.strings_Trim_one Tryz.trim ⟨s.toArray⟩ 32 (by decide) w (by rw [str_size]; exact hs)).mono fun e w' ⟨h1, h2⟩ => by subst h1; rcases h2 with rfl | rfl; exact ⟨rfl, Below.refl _ _⟩; exact ⟨rfl, (Below.refl _ _).drew⟩
theorem indexB_fn (s : List UInt8) (c : UInt8) : FnD Tryz.prog 38 [strT s, u8T c] (intT (Lib.indexByte s c)) := FnD.flat rfl fun w g vs _ hr => by
  cases hr with | cons h1 hr => cases hr with | cons h2 hr => cases hr; cases inv_v h1; cases inv_v h2; exact (Any.strings_IndexByte Tryz.indexB ⟨s.toArray⟩ (c.toNat : Int) w).mono fun e w' ⟨h1, h2⟩ => by subst h1 h2; rw [Int.toNat_natCast, show c.toNat.toUInt8 = c from by simp]; exact ⟨rfl, Below.refl _ _⟩
theorem pow10_tab {w : World} (h : TabsIn w) : Lib.TabIs Tryz.prog w "internal/strconv.uint64pow10" .u64 Lib.pow10Tab := by
  obtain ⟨cs, t, fr, rfl, h1⟩ := h (6, (· = pow10V)) (by unfold tabs; simp)
  unfold Lib.TabIs World.var?
  rw [show Tryz.prog.globalNamed "internal/strconv.uint64pow10" = some 6 from by kernel_rfl]
  simp only [Option.bind_some, h1]
  rfl
theorem itoa_fn (n : Int) (h0 : -9223372036854775808 ≤ n) (h1 : n ≤ 9223372036854775807) : FnD Tryz.prog 34 [intT n] (strT (Lib.itoa n)) := FnD.flatT rfl fun w g vs ht _ hr => by
  cases hr with | cons h2 hr => cases hr; cases inv_v h2; exact (Any.strconv_Itoa Tryz.itoa n h0 h1 w (pow10_tab ht)).mono fun e w' ⟨h1, k, os, h2⟩ => by subst h1 h2; exact ⟨rfl, (bl_drewN w k).trans (bl_grow (w.drewN k) os)⟩
end Go.Proofs.YtddmcmkhjkleoaaGreatDoor
end

section
namespace Go.Proofs
open Go.Shelf
def Tryz.trimP_ren : Go.Shelf.Ren := ⟨fun | 101 => 96 | 208 => 117 | 206 => 92 | n => n, fun | 9 => 9 | 4 => 4 | 3 => 3 | n => n, fun | n => n⟩
theorem Tryz.trimP : Go.Proofs.Lays.n101 Tryz.prog Tryz.trimP_ren := {
  mixed := by kernel_rfl
  f101 := Tryz.func96.trans (congrArg some (by kernel_rfl))
  f206 := Tryz.func92.trans (congrArg some (by kernel_rfl))
  f208 := Tryz.func117.trans (congrArg some (by kernel_rfl))
  t3 := Tryz.underlying3
  a3 := Tryz.isAgg3
  z3 := Tryz.sizeOf3
  v3 := Tryz.zeroValue3
  t4 := Tryz.underlying4
  a4 := Tryz.isAgg4
  z4 := Tryz.sizeOf4
  v4 := Tryz.zeroValue4
  t9 := Tryz.underlying9
  a9 := Tryz.isAgg9
  z9 := Tryz.sizeOf9
  v9 := Tryz.zeroValue9 }
def Tryz.cutP_ren : Go.Shelf.Ren := ⟨fun | 103 => 37 | 210 => 68 | 206 => 92 | n => n, fun | 9 => 9 | 4 => 4 | 24 => 83 | 3 => 3 | n => n, fun | n => n⟩
theorem Tryz.cutP : Go.Proofs.Lays.n103 Tryz.prog Tryz.cutP_ren := {
  mixed := by kernel_rfl
  f103 := Tryz.func37.trans (congrArg some (by kernel_rfl))
  f206 := Tryz.func92.trans (congrArg some (by kernel_rfl))
  f210 := Tryz.func68.trans (congrArg some (by kernel_rfl))
  t3 := Tryz.underlying3
  a3 := Tryz.isAgg3
  z3 := Tryz.sizeOf3
  v3 := Tryz.zeroValue3
  t4 := Tryz.underlying4
  a4 := Tryz.isAgg4
  z4 := Tryz.sizeOf4
  v4 := Tryz.zeroValue4
  t9 := Tryz.underlying9
  a9 := Tryz.isAgg9
  z9 := Tryz.sizeOf9
  v9 := Tryz.zeroValue9
  t24 := Tryz.underlying83
  a24 := Tryz.isAgg83
  z24 := Tryz.sizeOf83
  v24 := Tryz.zeroValue83 }
def Tryz.fmtB_ren : Go.Shelf.Ren := ⟨fun | 121 => 31 | 214 => 58 | n => n, fun | 4 => 4 | 9 => 9 | n => n, fun | n => n⟩
theorem Tryz.fmtB : Go.Proofs.Lays.n121 Tryz.prog Tryz.fmtB_ren := {
  mixed := by kernel_rfl
  f121 := Tryz.func31.trans (congrArg some (by kernel_rfl))
  f214 := Tryz.func58.trans (congrArg some (by kernel_rfl))
  t4 := Tryz.underlying4
  a4 := Tryz.isAgg4
  z4 := Tryz.sizeOf4
  v4 := Tryz.zeroValue4
  t9 := Tryz.underlying9
  a9 := Tryz.isAgg9
  z9 := Tryz.sizeOf9
  v9 := Tryz.zeroValue9 }
def Tryz.has_ren : Go.Shelf.Ren := ⟨fun | 144 => 59 | 143 => 63 | 219 => 89 | 217 => 69 | 225 => 112 | 224 => 113 | 267 => 114 | 266 => 93 | 314 => 129 | n => n, fun | 9 => 9 | 4 => 4 | 3 => 3 | 5 => 5 | 46 => 75 | 146 => 187 | 51 => 141 | n => n, fun | 1 => 4 | n => n⟩
theorem Tryz.has : Go.Proofs.LaysM.n144 Tryz.prog Tryz.has_ren := {
  mixed := by kernel_rfl
  f143 := Tryz.func63.trans (congrArg some (by kernel_rfl))
  f144 := Tryz.func59.trans (congrArg some (by kernel_rfl))
  f217 := Tryz.func69.trans (congrArg some (by kernel_rfl))
  f219 := Tryz.func89.trans (congrArg some (by kernel_rfl))
  f224 := Tryz.func113.trans (congrArg some (by kernel_rfl))
  f225 := Tryz.func112.trans (congrArg some (by kernel_rfl))
  f266 := Tryz.func93.trans (congrArg some (by kernel_rfl))
  f267 := Tryz.func114.trans (congrArg some (by kernel_rfl))
  f314 := Tryz.func129.trans (congrArg some (by kernel_rfl))
  t3 := Tryz.underlying3
  a3 := Tryz.isAgg3
  z3 := Tryz.sizeOf3
  v3 := Tryz.zeroValue3
  t4 := Tryz.underlying4
  a4 := Tryz.isAgg4
  z4 := Tryz.sizeOf4
  v4 := Tryz.zeroValue4
  t5 := Tryz.underlying5
  a5 := Tryz.isAgg5
  z5 := Tryz.sizeOf5
  v5 := Tryz.zeroValue5
  t9 := Tryz.underlying9
  a9 := Tryz.isAgg9
  z9 := Tryz.sizeOf9
  v9 := Tryz.zeroValue9
  t46 := Tryz.underlying75
  a46 := Tryz.isAgg75
  z46 := Tryz.sizeOf75
  v46 := Tryz.zeroValue75
  t51 := Tryz.underlying141
  a51 := Tryz.isAgg141
  z51 := Tryz.sizeOf141
  v51 := Tryz.zeroValue141
  t146 := Tryz.underlying187
  a146 := Tryz.isAgg187
  z146 := Tryz.sizeOf187
  v146 := Tryz.zeroValue187
  g1 := by kernel_rfl
  i3 := by kernel_rfl
  i4 := by kernel_rfl
  i5 := by kernel_rfl
  i9 := by kernel_rfl
  i46 := by kernel_rfl
  i51 := by kernel_rfl
  i146 := by kernel_rfl
  m1 := by kernel_rfl
  s1_3 := fun w h => Go.Proofs.cell_of_shapedOpen_int (zero := #[.int .i64 0]) (t := 3) h (of_decide_eq_true (by kernel_rfl)) (by kernel_rfl) rfl (by kernel_rfl) (by kernel_rfl) Tryz.underlying3 }
def Tryz.cut_ren : Go.Shelf.Ren := ⟨fun | 145 => 71 | 220 => 94 | 219 => 89 | 217 => 69 | 225 => 112 | 224 => 113 | 267 => 114 | 266 => 93 | 314 => 129 | n => n, fun | 9 => 9 | 4 => 4 | 59 => 123 | 3 => 3 | 5 => 5 | 46 => 75 | 146 => 187 | 51 => 141 | n => n, fun | 1 => 4 | n => n⟩
theorem Tryz.cut : Go.Proofs.LaysM.n145 Tryz.prog Tryz.cut_ren := {
  mixed := by kernel_rfl
  f145 := Tryz.func71.trans (congrArg some (by kernel_rfl))
  f217 := Tryz.func69.trans (congrArg some (by kernel_rfl))
  f219 := Tryz.func89.trans (congrArg some (by kernel_rfl))
  f220 := Tryz.func94.trans (congrArg some (by kernel_rfl))
  f224 := Tryz.func113.trans (congrArg some (by kernel_rfl))
  f225 := Tryz.func112.trans (congrArg some (by kernel_rfl))
  f266 := Tryz.func93.trans (congrArg some (by kernel_rfl))
  f267 := Tryz.func114.trans (congrArg some (by kernel_rfl))
  f314 := Tryz.func129.trans (congrArg some (by kernel_rfl))
  t3 := Tryz.underlying3
  a3 := Tryz.isAgg3
  z3 := Tryz.sizeOf3
  v3 := Tryz.zeroValue3
  t4 := Tryz.underlying4
  a4 := Tryz.isAgg4
  z4 := Tryz.sizeOf4
  v4 := Tryz.zeroValue4
  t5 := Tryz.underlying5
  a5 := Tryz.isAgg5
  z5 := Tryz.sizeOf5
  v5 := Tryz.zeroValue5
  t9 := Tryz.underlying9
  a9 := Tryz.isAgg9
  z9 := Tryz.sizeOf9
  v9 := Tryz.zeroValue9
  t46 := Tryz.underlying75
  a46 := Tryz.isAgg75
  z46 := Tryz.sizeOf75
  v46 := Tryz.zeroValue75
  t51 := Tryz.underlying141
  a51 := Tryz.isAgg141
  z51 := Tryz.sizeOf141
  v51 := Tryz.zeroValue141
  t59 := Tryz.underlying123
  a59 := Tryz.isAgg123
  z59 := Tryz.sizeOf123
  v59 := Tryz.zeroValue123
  t146 := Tryz.underlying187
  a146 := Tryz.isAgg187
  z146 := Tryz.sizeOf187
  v146 := Tryz.zeroValue187
  g1 := by kernel_rfl
  i3 := by kernel_rfl
  i4 := by kernel_rfl
  i5 := by kernel_rfl
  i9 := by kernel_rfl
  i46 := by kernel_rfl
  i51 := by kernel_rfl
  i59 := by kernel_rfl
  i146 := by kernel_rfl
  m1 := by kernel_rfl
  s1_3 := fun w h => Go.Proofs.cell_of_shapedOpen_int (zero := #[.int .i64 0]) (t := 3) h (of_decide_eq_true (by kernel_rfl)) (by kernel_rfl) rfl (by kernel_rfl) (by kernel_rfl) Tryz.underlying3 }
def Tryz.fieldsF_ren : Go.Shelf.Ren := ⟨fun | 229 => 55 | n => n, fun | 9 => 9 | 40 => 108 | 31 => 24 | 152 => 138 | 3 => 3 | 0 => 0 | 4 => 4 | 21 => 21 | 154 => 140 | n => n, fun | n => n⟩
theorem Tryz.fieldsF : Go.Proofs.Lays.n229 Tryz.prog Tryz.fieldsF_ren := {
  mixed := by kernel_rfl
  f229 := Tryz.func55.trans (congrArg some (by kernel_rfl))
  t0 := Tryz.underlying0
  a0 := Tryz.isAgg0
  z0 := Tryz.sizeOf0
  v0 := Tryz.zeroValue0
  t3 := Tryz.underlying3
  a3 := Tryz.isAgg3
  z3 := Tryz.sizeOf3
  v3 := Tryz.zeroValue3
  t4 := Tryz.underlying4
  a4 := Tryz.isAgg4
  z4 := Tryz.sizeOf4
  v4 := Tryz.zeroValue4
  t9 := Tryz.underlying9
  a9 := Tryz.isAgg9
  z9 := Tryz.sizeOf9
  v9 := Tryz.zeroValue9
  t21 := Tryz.underlying21
  a21 := Tryz.isAgg21
  z21 := Tryz.sizeOf21
  v21 := Tryz.zeroValue21
  t31 := Tryz.underlying24
  a31 := Tryz.isAgg24
  z31 := Tryz.sizeOf24
  v31 := Tryz.zeroValue24
  t40 := Tryz.underlying108
  a40 := Tryz.isAgg108
  z40 := Tryz.sizeOf108
  v40 := Tryz.zeroValue108
  t152 := Tryz.underlying138
  a152 := Tryz.isAgg138
  z152 := Tryz.sizeOf138
  v152 := Tryz.zeroValue138
  t154 := Tryz.underlying140
  a154 := Tryz.isAgg140
  z154 := Tryz.sizeOf140
  v154 := Tryz.zeroValue140 }
def Tryz.join_ren : Go.Shelf.Ren := ⟨fun | 156 => 73 | 165 => 95 | 166 => 13 | 169 => 18 | 240 => 30 | 241 => 116 | 276 => 57 | 277 => 131 | n => n, fun | 31 => 24 | 9 => 9 | 3 => 3 | 4 => 4 | 0 => 0 | 20 => 20 | 72 => 47 | 76 => 51 | 70 => 45 | 37 => 35 | 75 => 50 | 127 => 80 | 164 => 109 | 5 => 5 | 80 => 58 | n => n, fun | n => n⟩
theorem Tryz.join : Go.Proofs.Lays.n156 Tryz.prog Tryz.join_ren := {
  mixed := by kernel_rfl
  f156 := Tryz.func73.trans (congrArg some (by kernel_rfl))
  f165 := Tryz.func95.trans (congrArg some (by kernel_rfl))
  f166 := Tryz.func13.trans (congrArg some (by kernel_rfl))
  f169 := Tryz.func18.trans (congrArg some (by kernel_rfl))
  f240 := Tryz.func30.trans (congrArg some (by kernel_rfl))
  f241 := Tryz.func116.trans (congrArg some (by kernel_rfl))
  f276 := Tryz.func57.trans (congrArg some (by kernel_rfl))
  f277 := Tryz.func131.trans (congrArg some (by kernel_rfl))
  t0 := Tryz.underlying0
  a0 := Tryz.isAgg0
  z0 := Tryz.sizeOf0
  v0 := Tryz.zeroValue0
  t3 := Tryz.underlying3
  a3 := Tryz.isAgg3
  z3 := Tryz.sizeOf3
  v3 := Tryz.zeroValue3
  t4 := Tryz.underlying4
  a4 := Tryz.isAgg4
  z4 := Tryz.sizeOf4
  v4 := Tryz.zeroValue4
  t9 := Tryz.underlying9
  a9 := Tryz.isAgg9
  z9 := Tryz.sizeOf9
  v9 := Tryz.zeroValue9
  t20 := Tryz.underlying20
  a20 := Tryz.isAgg20
  z20 := Tryz.sizeOf20
  v20 := Tryz.zeroValue20
  t31 := Tryz.underlying24
  a31 := Tryz.isAgg24
  z31 := Tryz.sizeOf24
  v31 := Tryz.zeroValue24
  t37 := Tryz.underlying35
  a37 := Tryz.isAgg35
  z37 := Tryz.sizeOf35
  v37 := Tryz.zeroValue35
  t70 := Tryz.underlying45
  a70 := Tryz.isAgg45
  z70 := Tryz.sizeOf45
  v70 := Tryz.zeroValue45
  t72 := Tryz.underlying47
  a72 := Tryz.isAgg47
  z72 := Tryz.sizeOf47
  v72 := Tryz.zeroValue47
  t75 := Tryz.underlying50
  a75 := Tryz.isAgg50
  z75 := Tryz.sizeOf50
  v75 := Tryz.zeroValue50
  t76 := Tryz.underlying51
  a76 := Tryz.isAgg51
  z76 := Tryz.sizeOf51
  v76 := Tryz.zeroValue51
  t127 := Tryz.underlying80
  a127 := Tryz.isAgg80
  z127 := Tryz.sizeOf80
  v127 := Tryz.zeroValue80
  t164 := Tryz.underlying109
  a164 := Tryz.isAgg109
  z164 := Tryz.sizeOf109
  v164 := Tryz.zeroValue109 }
def Tryz.bstr_ren : Go.Shelf.Ren := ⟨fun | 169 => 18 | n => n, fun | 70 => 45 | 9 => 9 | 0 => 0 | 72 => 47 | 37 => 35 | 127 => 80 | 3 => 3 | 5 => 5 | n => n, fun | n => n⟩
theorem Tryz.bstr : Go.Proofs.Lays.n169 Tryz.prog Tryz.bstr_ren := {
  mixed := by kernel_rfl
  f169 := Tryz.func18.trans (congrArg some (by kernel_rfl))
  t0 := Tryz.underlying0
  a0 := Tryz.isAgg0
  z0 := Tryz.sizeOf0
  v0 := Tryz.zeroValue0
  t3 := Tryz.underlying3
  a3 := Tryz.isAgg3
  z3 := Tryz.sizeOf3
  v3 := Tryz.zeroValue3
  t9 := Tryz.underlying9
  a9 := Tryz.isAgg9
  z9 := Tryz.sizeOf9
  v9 := Tryz.zeroValue9
  t37 := Tryz.underlying35
  a37 := Tryz.isAgg35
  z37 := Tryz.sizeOf35
  v37 := Tryz.zeroValue35
  t70 := Tryz.underlying45
  a70 := Tryz.isAgg45
  z70 := Tryz.sizeOf45
  v70 := Tryz.zeroValue45
  t72 := Tryz.underlying47
  a72 := Tryz.isAgg47
  z72 := Tryz.sizeOf47
  v72 := Tryz.zeroValue47
  t127 := Tryz.underlying80
  a127 := Tryz.isAgg80
  z127 := Tryz.sizeOf80
  v127 := Tryz.zeroValue80 }
def Tryz.pInt_ren : Go.Shelf.Ren := ⟨fun | 174 => 97 | 247 => 118 | 245 => 119 | 287 => 132 | 279 => 133 | 280 => 134 | 281 => 135 | 282 => 136 | 321 => 140 | 322 => 141 | 316 => 142 | 171 => 34 | 205 => 143 | 243 => 60 | 246 => 87 | 283 => 108 | 284 => 109 | 285 => 110 | 286 => 111 | 129 => 125 | 317 => 124 | 318 => 126 | 319 => 127 | 320 => 128 | 337 => 138 | 338 => 139 | n => n, fun | 9 => 9 | 3 => 3 | 2 => 2 | 75 => 50 | 85 => 147 | 4 => 4 | 167 => 190 | 5 => 5 | 53 => 150 | 175 => 191 | 46 => 75 | 168 => 193 | 37 => 35 | 0 => 0 | 210 => 199 | 21 => 21 | 127 => 80 | 145 => 205 | 143 => 203 | 171 => 169 | 173 => 172 | 212 => 184 | 51 => 141 | 20 => 20 | 213 => 185 | 232 => 201 | 233 => 202 | 80 => 58 | n => n, fun | 15 => 7 | 16 => 8 | 17 => 6 | 18 => 9 | 19 => 10 | n => n⟩
theorem Tryz.pInt : Go.Proofs.LaysC.n174 Tryz.prog Tryz.pInt_ren := {
  mixed := by kernel_rfl
  f129 := Tryz.func125.trans (congrArg some (by kernel_rfl))
  f171 := Tryz.func34.trans (congrArg some (by kernel_rfl))
  f174 := Tryz.func97.trans (congrArg some (by kernel_rfl))
  f205 := Tryz.func143.trans (congrArg some (by kernel_rfl))
  f243 := Tryz.func60.trans (congrArg some (by kernel_rfl))
  f245 := Tryz.func119.trans (congrArg some (by kernel_rfl))
  f246 := Tryz.func87.trans (congrArg some (by kernel_rfl))
  f247 := Tryz.func118.trans (congrArg some (by kernel_rfl))
  f279 := Tryz.func133.trans (congrArg some (by kernel_rfl))
  f280 := Tryz.func134.trans (congrArg some (by kernel_rfl))
  f281 := Tryz.func135.trans (congrArg some (by kernel_rfl))
  f282 := Tryz.func136.trans (congrArg some (by kernel_rfl))
  f283 := Tryz.func108.trans (congrArg some (by kernel_rfl))
  f284 := Tryz.func109.trans (congrArg some (by kernel_rfl))
  f285 := Tryz.func110.trans (congrArg some (by kernel_rfl))
  f286 := Tryz.func111.trans (congrArg some (by kernel_rfl))
  f287 := Tryz.func132.trans (congrArg some (by kernel_rfl))
  f316 := Tryz.func142.trans (congrArg some (by kernel_rfl))
  f317 := Tryz.func124.trans (congrArg some (by kernel_rfl))
  f318 := Tryz.func126.trans (congrArg some (by kernel_rfl))
  f319 := Tryz.func127.trans (congrArg some (by kernel_rfl))
  f320 := Tryz.func128.trans (congrArg some (by kernel_rfl))
  f321 := Tryz.func140.trans (congrArg some (by kernel_rfl))
  f322 := Tryz.func141.trans (congrArg some (by kernel_rfl))
  f337 := Tryz.func138.trans (congrArg some (by kernel_rfl))
  f338 := Tryz.func139.trans (congrArg some (by kernel_rfl))
  t0 := Tryz.underlying0
  a0 := Tryz.isAgg0
  z0 := Tryz.sizeOf0
  v0 := Tryz.zeroValue0
  t2 := Tryz.underlying2
  a2 := Tryz.isAgg2
  z2 := Tryz.sizeOf2
  v2 := Tryz.zeroValue2
  t3 := Tryz.underlying3
  a3 := Tryz.isAgg3
  z3 := Tryz.sizeOf3
  v3 := Tryz.zeroValue3
  t4 := Tryz.underlying4
  a4 := Tryz.isAgg4
  z4 := Tryz.sizeOf4
  v4 := Tryz.zeroValue4
  t5 := Tryz.underlying5
  a5 := Tryz.isAgg5
  z5 := Tryz.sizeOf5
  v5 := Tryz.zeroValue5
  t9 := Tryz.underlying9
  a9 := Tryz.isAgg9
  z9 := Tryz.sizeOf9
  v9 := Tryz.zeroValue9
  t20 := Tryz.underlying20
  a20 := Tryz.isAgg20
  z20 := Tryz.sizeOf20
  v20 := Tryz.zeroValue20
  t21 := Tryz.underlying21
  a21 := Tryz.isAgg21
  z21 := Tryz.sizeOf21
  v21 := Tryz.zeroValue21
  t37 := Tryz.underlying35
  a37 := Tryz.isAgg35
  z37 := Tryz.sizeOf35
  v37 := Tryz.zeroValue35
  t46 := Tryz.underlying75
  a46 := Tryz.isAgg75
  z46 := Tryz.sizeOf75
  v46 := Tryz.zeroValue75
  t51 := Tryz.underlying141
  a51 := Tryz.isAgg141
  z51 := Tryz.sizeOf141
  v51 := Tryz.zeroValue141
  t53 := Tryz.underlying150
  a53 := Tryz.isAgg150
  z53 := Tryz.sizeOf150
  v53 := Tryz.zeroValue150
  t75 := Tryz.underlying50
  a75 := Tryz.isAgg50
  z75 := Tryz.sizeOf50
  v75 := Tryz.zeroValue50
  t85 := Tryz.underlying147
  a85 := Tryz.isAgg147
  z85 := Tryz.sizeOf147
  v85 := Tryz.zeroValue147
  t127 := Tryz.underlying80
  a127 := Tryz.isAgg80
  z127 := Tryz.sizeOf80
  v127 := Tryz.zeroValue80
  t143 := Tryz.underlying203
  a143 := Tryz.isAgg203
  z143 := Tryz.sizeOf203
  v143 := Tryz.zeroValue203
  t145 := Tryz.underlying205
  a145 := Tryz.isAgg205
  z145 := Tryz.sizeOf205
  v145 := Tryz.zeroValue205
  t167 := Tryz.underlying190
  a167 := Tryz.isAgg190
  z167 := Tryz.sizeOf190
  v167 := Tryz.zeroValue190
  t168 := Tryz.underlying193
  a168 := Tryz.isAgg193
  z168 := Tryz.sizeOf193
  v168 := Tryz.zeroValue193
  t171 := Tryz.underlying169
  a171 := Tryz.isAgg169
  z171 := Tryz.sizeOf169
  v171 := Tryz.zeroValue169
  t173 := Tryz.underlying172
  a173 := Tryz.isAgg172
  z173 := Tryz.sizeOf172
  v173 := Tryz.zeroValue172
  t175 := Tryz.underlying191
  a175 := Tryz.isAgg191
  z175 := Tryz.sizeOf191
  v175 := Tryz.zeroValue191
  t210 := Tryz.underlying199
  a210 := Tryz.isAgg199
  z210 := Tryz.sizeOf199
  v210 := Tryz.zeroValue199
  t212 := Tryz.underlying184
  a212 := Tryz.isAgg184
  z212 := Tryz.sizeOf184
  v212 := Tryz.zeroValue184
  t213 := Tryz.underlying185
  a213 := Tryz.isAgg185
  z213 := Tryz.sizeOf185
  t232 := Tryz.underlying201
  a232 := Tryz.isAgg201
  z232 := Tryz.sizeOf201
  v232 := Tryz.zeroValue201
  t233 := Tryz.underlying202
  a233 := Tryz.isAgg202
  z233 := Tryz.sizeOf202
  v233 := Tryz.zeroValue202
  g15 := by kernel_rfl
  g16 := by kernel_rfl
  g17 := by kernel_rfl
  g18 := by kernel_rfl
  g19 := by kernel_rfl
  t80 := Tryz.underlying58
  a80 := Tryz.isAgg58
  z80 := Tryz.sizeOf58
  v80 := Tryz.zeroValue58
  i0 := by kernel_rfl
  i2 := by kernel_rfl
  i3 := by kernel_rfl
  i4 := by kernel_rfl
  i5 := by kernel_rfl
  i9 := by kernel_rfl
  i20 := by kernel_rfl
  i21 := by kernel_rfl
  i37 := by kernel_rfl
  i46 := by kernel_rfl
  i51 := by kernel_rfl
  i53 := by kernel_rfl
  i75 := by kernel_rfl
  i80 := by kernel_rfl
  i85 := by kernel_rfl
  i127 := by kernel_rfl
  i143 := by kernel_rfl
  i145 := by kernel_rfl
  i167 := by kernel_rfl
  i168 := by kernel_rfl
  i171 := by kernel_rfl
  i173 := by kernel_rfl
  i175 := by kernel_rfl
  i210 := by kernel_rfl
  i212 := by kernel_rfl
  i232 := by kernel_rfl
  i233 := by kernel_rfl
  m15 := by kernel_rfl
  m16 := by kernel_rfl
  m17 := by kernel_rfl
  m18 := by kernel_rfl
  m19 := by kernel_rfl
  c0 := by kernel_rfl
  c2 := by kernel_rfl
  c3 := by kernel_rfl
  c4 := by kernel_rfl
  c5 := by kernel_rfl
  c9 := by kernel_rfl
  c20 := by kernel_rfl
  c21 := by kernel_rfl
  c37 := by kernel_rfl
  c46 := by kernel_rfl
  c51 := by kernel_rfl
  c53 := by kernel_rfl
  c75 := by kernel_rfl
  c80 := by kernel_rfl
  c85 := by kernel_rfl
  c127 := by kernel_rfl
  c143 := by kernel_rfl
  c145 := by kernel_rfl
  c167 := by kernel_rfl
  c168 := by kernel_rfl
  c171 := by kernel_rfl
  c173 := by kernel_rfl
  c175 := by kernel_rfl
  c210 := by kernel_rfl
  c212 := by kernel_rfl
  c213 := by kernel_rfl
  c232 := by kernel_rfl
  c233 := by kernel_rfl }
/- The contract's own laying cannot find its type of no method; strings.Join's laying names it. -/
theorem Tryz.wrS : Go.Proofs.Lays.n166 Tryz.prog Tryz.join_ren := {
  mixed := Tryz.join.mixed
  f166 := Tryz.join.f166
  f240 := Tryz.join.f240
  f276 := Tryz.join.f276
  t0 := Tryz.join.t0
  a0 := Tryz.join.a0
  z0 := Tryz.join.z0
  v0 := Tryz.join.v0
  t3 := Tryz.join.t3
  a3 := Tryz.join.a3
  z3 := Tryz.join.z3
  v3 := Tryz.join.v3
  t4 := Tryz.join.t4
  a4 := Tryz.join.a4
  z4 := Tryz.join.z4
  v4 := Tryz.join.v4
  t9 := Tryz.join.t9
  a9 := Tryz.join.a9
  z9 := Tryz.join.z9
  v9 := Tryz.join.v9
  t20 := Tryz.join.t20
  a20 := Tryz.join.a20
  z20 := Tryz.join.z20
  v20 := Tryz.join.v20
  t37 := Tryz.join.t37
  a37 := Tryz.join.a37
  z37 := Tryz.join.z37
  v37 := Tryz.join.v37
  t70 := Tryz.join.t70
  a70 := Tryz.join.a70
  z70 := Tryz.join.z70
  v70 := Tryz.join.v70
  t72 := Tryz.join.t72
  a72 := Tryz.join.a72
  z72 := Tryz.join.z72
  v72 := Tryz.join.v72
  t75 := Tryz.join.t75
  a75 := Tryz.join.a75
  z75 := Tryz.join.z75
  v75 := Tryz.join.v75
  t164 := Tryz.join.t164
  a164 := Tryz.join.a164
  z164 := Tryz.join.z164
  v164 := Tryz.join.v164
}
end Go.Proofs
end

section
namespace Go.Proofs.YtddmcmkhjkleoaaGreatDoor
open Go.RowKit

theorem reps_flat {g : Gh} : ∀ {vs : List Value}, vs.all (·.oneCell') = true → Reps g (vs.map fun v => T.d (.v v)) vs
  | [], _ => .nil
  | v :: vs, h => by
    rw [List.all_cons, Bool.and_eq_true] at h
    exact .cons (.d (.v h.1)) (reps_flat h.2)
/-- Several flat results; what was there stays. -/
theorem FnD.flats {f : FuncId} {args : List T} {vs : List Value} (h1 : vs.all (·.oneCell') = true) (h : ∀ (w : World) (g : Gh) (xs : List Value), TabsIn w → (∀ b o x, g.S b o = some x → w.cell? ⟨b, o, none⟩ = some x) → Reps g args xs → Calls Tryz.prog f xs.toArray w fun e w' => e = .returned (.tuple vs.toArray) ∧ Below w.heap.size w w') : FnD Tryz.prog f args (.tup (vs.map fun v => T.d (.v v))) := by
  intro w g xs ht hi hr
  refine (h w g xs ht hi hr).mono ?_
  rintro e w' ⟨rfl, hb⟩
  refine ⟨_, g.S, rfl, SLe.refl _, fun _ _ _ => rfl, fun b o x hx => ?_, .tup (reps_flat h1), hb⟩
  rw [hb.cell (p := ⟨b, o, none⟩) (World.block_lt_of_cell? w ⟨b, o, none⟩ (hi b o x hx))]
  exact hi b o x hx
theorem cutP_fn (s p : List UInt8) : FnD Tryz.prog 37 [strT s, strT p] (.tup [strT (Lib.trimPrefix s p), boolT (Lib.hasPrefix s p)]) := FnD.flats (vs := [strV (Lib.trimPrefix s p), .bool (Lib.hasPrefix s p)]) rfl fun w g vs _ _ hr => by
  cases hr with | cons h1 hr => cases hr with | cons h2 hr => cases hr; cases inv_v h1; cases inv_v h2; exact (Any.strings_CutPrefix Tryz.cutP ⟨s.toArray⟩ ⟨p.toArray⟩ w).mono fun e w' ⟨h1, h2⟩ => by subst h1 h2; exact ⟨rfl, Below.refl _ _⟩
theorem trimP_fn (s p : List UInt8) : FnD Tryz.prog 96 [strT s, strT p] (strT (Lib.trimPrefix s p)) := FnD.flat rfl fun w g vs _ hr => by
  cases hr with | cons h1 hr => cases hr with | cons h2 hr => cases hr; cases inv_v h1; cases inv_v h2; exact (Any.strings_TrimPrefix Tryz.trimP ⟨s.toArray⟩ ⟨p.toArray⟩ w).mono fun e w' ⟨h1, h2⟩ => by subst h1 h2; exact ⟨rfl, Below.refl _ _⟩
theorem fmtB_fn (b : Bool) : FnD Tryz.prog 31 [boolT b] (strT (Lib.formatBool b)) := FnD.flat rfl fun w g vs _ hr => by
  cases hr with | cons h1 hr => cases hr; cases inv_v h1; exact (Any.strconv_FormatBool Tryz.fmtB b w).mono fun e w' ⟨h1, h2⟩ => by subst h1 h2; exact ⟨rfl, Below.refl _ _⟩
end Go.Proofs.YtddmcmkhjkleoaaGreatDoor
end

section
namespace Go.Proofs.YtddmcmkhjkleoaaGreatDoor
open Go.RowKit

theorem max_len {w : World} (h : TabsIn w) : ∃ m, w.cell? ⟨4, 0, none⟩ = some (.int .i64 m) := by
  obtain ⟨cs, t, fr, ⟨m, rfl⟩, h1⟩ := h (4, intV) (by unfold tabs; simp)
  exact ⟨m, by simp [World.cell?, h1]⟩
theorem has_fn (s p : List UInt8) (hs : s.length < 4294967281) : FnD Tryz.prog 59 [strT s, strT p] (boolT (Lib.contains s p)) := FnD.flatT rfl fun w g vs ht _ hr => by
  obtain ⟨m, hm⟩ := max_len ht
  cases hr with | cons h1 hr => cases hr with | cons h2 hr => cases hr; cases inv_v h1; cases inv_v h2; exact (Any.strings_Contains { Tryz.has with } ⟨s.toArray⟩ ⟨p.toArray⟩ m w (by rw [str_size]; exact hs) hm).mono fun e w' ⟨h1, h2⟩ => by subst h1 h2; exact ⟨rfl, Below.refl _ _⟩
theorem cut_fn (s p : List UInt8) (hs : s.length < 4294967281) : FnD Tryz.prog 71 [strT s, strT p] (.tup [strT (Lib.cut s p).1, strT (Lib.cut s p).2.1, boolT (Lib.cut s p).2.2]) := FnD.flats (vs := [strV (Lib.cut s p).1, strV (Lib.cut s p).2.1, .bool (Lib.cut s p).2.2]) rfl fun w g vs ht _ hr => by
  obtain ⟨m, hm⟩ := max_len ht
  cases hr with | cons h1 hr => cases hr with | cons h2 hr => cases hr; cases inv_v h1; cases inv_v h2; exact (Any.strings_Cut { Tryz.cut with } ⟨s.toArray⟩ ⟨p.toArray⟩ m w (by rw [str_size]; exact hs) hm).mono fun e w' ⟨h1, k, h2⟩ => by subst h1 h2; exact ⟨rfl, bl_drewN w k⟩
end Go.Proofs.YtddmcmkhjkleoaaGreatDoor
end

section
namespace Go.Proofs.YtddmcmkhjkleoaaGreatDoor

abbrev strU (s : String) : List UInt8 := s.toUTF8.data.toList
/-- The words of orders, by their numbers. -/
def lwordsL : List (List UInt8) := ["", "load", "move", "add", "sub", "mul", "div", "mod", "eq", "lt", "le", "not", "neg", "jump", "back", "test", "new", "get", "put", "list", "index", "store", "box", "unbox", "into", "up", "clos", "call", "return", "throw", "try", "end", "yield", "say", "ask", "spawn", "join", "lock", "free"].map strU
def manyL : List Nat := [1, 2, 2, 3, 3, 3, 3, 3, 3, 3, 3, 2, 2, 1, 1, 2, 1, 3, 3, 3, 3, 3, 1, 2, 2, 2, 2, 3, 1, 1, 2, 0, 2, 1, 1, 2, 2, 1, 1]
def threesU : List UInt8 := strU " add sub mul div mod eq lt le get put list index store call "
def twosU : List UInt8 := strU " load move not neg test unbox into up clos try yield spawn join "
/-- How many of A, B, C an order's word names. -/
def namedM (w : List UInt8) : Nat :=
  if Lib.contains threesU (32 :: (w ++ [32])) = true then 3 else if Lib.contains twosU (32 :: (w ++ [32])) = true then 2 else if w = strU "end" then 0 else 1
def hexL : List UInt8 := strU "0123456789abcdef"
def hexM (n : Nat) : UInt8 := hexL.getD n 0
def plainB (b : UInt8) : Bool := !(decide (b < 32) || decide (126 < b) || b == 34 || b == 92)
def quoteB (b : UInt8) : List UInt8 := if plainB b = true then [b] else [92, hexM (b.toNat / 16), hexM (b.toNat % 16)]
def quotedM (s : List UInt8) : List UInt8 := 34 :: (s.flatMap quoteB ++ [34])
def numsM (l : List Int) : List UInt8 := l.flatMap fun n => 32 :: Lib.itoa n
def constW (v : Int × Int) : List UInt8 :=
  if v.1 = 0 then strU "nil" else if v.1 = 1 then Lib.formatBool (v.2 == 1) else if v.1 = 2 then strU "int" ++ numsM [v.2]
  else if v.1 = 3 then strU "float" ++ numsM [v.2] else if v.1 = 4 then strU "text" ++ numsM [v.2] else strU "call" ++ numsM [v.2]
def orderT (i : InR) : List UInt8 :=
  let w := lwordsL.getD i.op.toNat []
  32 :: (w ++ numsM ([i.a, i.b, i.c].take (namedM w)) ++ strU " @" ++ Lib.itoa i.line ++ [10])
def headT (f : FnR) : List UInt8 := (if f.gen = true then strU "gen" else strU "fn") ++ numsM [f.params, f.regs] ++ [10]
def caughtT (f : FnR) : List UInt8 := if f.caught = [] then [] else strU "caught" ++ numsM f.caught ++ [10]
def functionT (f : FnR) : List UInt8 := headT f ++ caughtT f ++ f.code.flatMap orderT
def textT (s : List UInt8) : List UInt8 := strU "text " ++ quotedM s ++ [10]
def writeT (p : PrR) : List UInt8 := (p.texts.drop 19).flatMap textT ++ p.consts.flatMap (fun v => strU "const " ++ constW v ++ [10]) ++ p.fns.flatMap functionT

theorem lwords_len : lwordsL.length = 39 := rfl
theorem many_eq : lwordsL.map namedM = manyL := by decide +kernel

/-! ### What is quoted reads back -/
def digitM (b : UInt8) : Int := Lib.indexByte hexL b
/-- From behind the first quote: the text, and what is behind the last one. -/
def unqM : Nat → List UInt8 → List UInt8 → Option (List UInt8 × List UInt8)
  | 0, _, _ => none
  | _ + 1, [], _ => none
  | n + 1, b :: l, out =>
    if b = 34 then some (out, l)
    else if b = 92 ∧ 2 ≤ l.length ∧ 0 ≤ digitM (l.getD 0 0) ∧ 0 ≤ digitM (l.getD 1 0) then
      unqM n (l.drop 2) (out ++ [UInt8.ofNat ((digitM (l.getD 0 0)).toNat * 16 + (digitM (l.getD 1 0)).toNat)])
    else if b = 92 ∨ (b < 32 ∧ b ≠ 9) then none
    else unqM n l (out ++ [b])
theorem hex_all : ∀ n : Fin 16, digitM (hexM n.1) = (n.1 : Int) := by decide +kernel
theorem quote_read : ∀ (s : List UInt8) (n : Nat) (out behind : List UInt8), s.length < n → unqM n (s.flatMap quoteB ++ 34 :: behind) out = some (out ++ s, behind)
  | [], n + 1, out, behind, _ => by simp [unqM]
  | b :: s, n + 1, out, behind, h => by
    have ih := fun o => quote_read s n o behind (by simpa using h)
    rw [List.flatMap_cons, List.append_assoc]
    by_cases hp : plainB b = true
    · rw [show quoteB b = [b] from if_pos hp]
      simp only [plainB, Bool.not_eq_true', Bool.or_eq_false_iff, decide_eq_false_iff_not, beq_eq_false_iff_ne, ne_eq] at hp
      obtain ⟨⟨⟨h1, h2⟩, h3⟩, h4⟩ := hp
      show unqM (n + 1) (b :: (s.flatMap quoteB ++ 34 :: behind)) out = _
      rw [unqM, if_neg h3, if_neg (fun h => h4 h.1), if_neg (by rintro (h | h); exact h4 h; exact h1 h.1), ih]
      simp
    · rw [show quoteB b = [92, hexM (b.toNat / 16), hexM (b.toNat % 16)] from if_neg hp]
      have hb : b.toNat < 256 := b.toNat_lt
      have e1 := hex_all ⟨b.toNat / 16, by omega⟩
      have e2 := hex_all ⟨b.toNat % 16, by omega⟩
      dsimp only at e1 e2
      show unqM (n + 1) (92 :: (hexM (b.toNat / 16) :: hexM (b.toNat % 16) :: (s.flatMap quoteB ++ 34 :: behind))) out = _
      have e3 : UInt8.ofNat (b.toNat / 16 * 16 + b.toNat % 16) = b := by rw [show b.toNat / 16 * 16 + b.toNat % 16 = b.toNat by omega]; exact UInt8.ofNat_toNat
      rw [unqM, if_neg (by decide)]
      simp only [List.getD_cons_zero, List.getD_cons_succ, e1, e2, List.length_cons, List.drop_succ_cons, List.drop_zero, Int.toNat_natCast, e3]
      rw [if_pos ⟨trivial, by omega, by omega, by omega⟩, ih]
      simp
end Go.Proofs.YtddmcmkhjkleoaaGreatDoor
end

section
namespace Go.Proofs.YtddmcmkhjkleoaaGreatDoor
open Go.RowKit

theorem threes_u : threesU = [32, 97, 100, 100, 32, 115, 117, 98, 32, 109, 117, 108, 32, 100, 105, 118, 32, 109, 111, 100, 32, 101, 113, 32, 108, 116, 32, 108, 101, 32, 103, 101, 116, 32, 112, 117, 116, 32, 108, 105, 115, 116, 32, 105, 110, 100, 101, 120, 32, 115, 116, 111, 114, 101, 32, 99, 97, 108, 108, 32] := by decide +kernel
theorem twos_u : twosU = [32, 108, 111, 97, 100, 32, 109, 111, 118, 101, 32, 110, 111, 116, 32, 110, 101, 103, 32, 116, 101, 115, 116, 32, 117, 110, 98, 111, 120, 32, 105, 110, 116, 111, 32, 117, 112, 32, 99, 108, 111, 115, 32, 116, 114, 121, 32, 121, 105, 101, 108, 100, 32, 115, 112, 97, 119, 110, 32, 106, 111, 105, 110, 32] := by decide +kernel
set_option maxRecDepth 100000 in
theorem named_fn (w : List UInt8) (hw : w.length ≤ 4294967200) : FnD Tryz.prog 33 [strT w] (intT (namedM w)) := by
  have l1 : ([32] : List UInt8).length + w.length ≤ 9223372036854775807 := by simp only [List.length_cons, List.length_nil]; omega
  have l2 : ([32] ++ w).length + ([32] : List UInt8).length ≤ 9223372036854775807 := by simp only [List.length_append, List.length_cons, List.length_nil]; omega
  have h1 := has_fn threesU ([32] ++ w ++ [32]) (by rw [threes_u]; decide)
  have h2 := has_fn twosU ([32] ++ w ++ [32]) (by rw [twos_u]; decide)
  unfold namedM
  rw [show (32 : UInt8) :: (w ++ [32]) = [32] ++ w ++ [32] from rfl]
  cases c1 : Lib.contains threesU ([32] ++ w ++ [32]) with
  | true =>
    rw [c1, threes_u] at h1
    rw [if_pos rfl]
    refine FnD.of1 (n := 16) [] fax_ok Tryz.func33 rfl rfl rfl (by rfl) (by kernel_rfl) (by intro _; rfl) fun Γ hA hbA => ?_
    (repeat ((conv => whnf); (first | refine gd (enters_of Tryz.func59 rfl rfl) h1 ?_ | refine tT ?_ | refine lQ ?_)))
    exact ⟨eN, rS, fiO⟩
  | false =>
    rw [c1, threes_u] at h1
    rw [if_neg (by decide)]
    cases c2 : Lib.contains twosU ([32] ++ w ++ [32]) with
    | true =>
      rw [c2, twos_u] at h2
      rw [if_pos rfl]
      refine FnD.of1 (n := 16) [] fax_ok Tryz.func33 rfl rfl rfl (by rfl) (by kernel_rfl) (by intro _; rfl) fun Γ hA hbA => ?_
      (repeat ((conv => whnf); (first | refine gd (enters_of Tryz.func59 rfl rfl) h1 ?_ | refine gd (enters_of Tryz.func59 rfl rfl) h2 ?_ | refine tT ?_ | refine tF ?_ | refine lQ ?_)))
      exact ⟨eN, rS, fiO⟩
    | false =>
      rw [c2, twos_u] at h2
      rw [if_neg (by decide)]
      have e3 : strU "end" = [101, 110, 100] := by decide +kernel
      rw [e3]
      by_cases h3 : w = [101, 110, 100]
      · rw [if_pos h3]
        have hq : (w == [101, 110, 100]) = true := beq_iff_eq.2 h3
        refine FnD.of1 (n := 16) [] fax_ok Tryz.func33 rfl rfl rfl (by rfl) (by kernel_rfl) (by intro _; rfl) fun Γ hA hbA => ?_
        (repeat ((conv => whnf); (first | refine exR ?_ | refine gd (enters_of Tryz.func59 rfl rfl) h1 ?_ | refine gd (enters_of Tryz.func59 rfl rfl) h2 ?_ | refine tT ?_ | refine tF ?_ | refine lQ ?_)))
        exact ⟨eN, rS, fiO⟩
      · rw [if_neg h3]
        have hq : (w == [101, 110, 100]) = false := beq_eq_false_iff_ne.2 h3
        refine FnD.of1 (n := 16) [] fax_ok Tryz.func33 rfl rfl rfl (by rfl) (by kernel_rfl) (by intro _; rfl) fun Γ hA hbA => ?_
        (repeat ((conv => whnf); (first | refine exR ?_ | refine gd (enters_of Tryz.func59 rfl rfl) h1 ?_ | refine gd (enters_of Tryz.func59 rfl rfl) h2 ?_ | refine tF ?_ | refine lQ ?_)))
        exact ⟨eN, rS, fiO⟩
end Go.Proofs.YtddmcmkhjkleoaaGreatDoor
end

section
namespace Go.Proofs.YtddmcmkhjkleoaaGreatDoor
open Go.RowKit

theorem nums_snoc (l : List Int) (n : Int) : numsM (l ++ [n]) = numsM l ++ ([32] ++ Lib.itoa n) := by simp [numsM]
/-- Numbers whose words are short enough. -/
theorem numbers_fn (l : List Int) (hl : ∀ n ∈ l, (-9223372036854775808 ≤ n ∧ n ≤ 9223372036854775807)) (hw : ∀ i, i ≤ l.length → (numsM (l.take i)).length ≤ 1000000000000) : FnD Tryz.prog 32 [.d (isD l)] (strT (numsM l)) := by
  refine FnD.of1 (n := 19) [] fax_ok Tryz.func32 rfl rfl rfl (by rfl) (by kernel_rfl) (by intro _; rfl) fun Γ hA hbA => ?_
  skip
  refine ev_loop [] fax_ok hA (by kernel_rfl) (fun i : Nat => i ≤ l.length) (fun i => [(3, strT (numsM (l.take i))), (6, .d (isD l)), (7, intT (l.map iD).length), (8, intT i)]) (fun _ => []) (fun i => l.length - i) 0 (Nat.zero_le _) fiE fiO ?_
  rintro i hi hb -
  have hmc : (l.map iD).length = l.length := List.length_map _
  have hlen : (l.map iD).length ≤ 9223372036854775807 := by first | exact hb.1 | exact hb.2.1 | exact hb.2.1.1
  by_cases h : i < l.length
  · have hx : (l.map iD)[i]? = some (iD l[i]) := by rw [List.getElem?_map, List.getElem?_eq_getElem h, Option.map_some]
    have hn := hl l[i] (List.getElem_mem h)
    have ht : l.take (i + 1) = l.take i ++ [l[i]] := by rw [List.take_add_one, List.getElem?_eq_getElem h]; rfl
    have hs := nums_snoc (l.take i) l[i]
    rw [← ht] at hs
    have hw1 := hw (i + 1) (by omega)
    rw [hs] at hw1
    generalize l[i] = n at *
    have hI := itoa_fn n hn.1 hn.2
    generalize Lib.itoa n = t at *
    generalize numsM (l.take i) = o at *
    have l1 : ([32] : List UInt8).length + t.length ≤ 9223372036854775807 := by simp only [List.length_append, List.length_cons, List.length_nil] at hw1 ⊢; omega
    have l2 : o.length + ([32] ++ t).length ≤ 9223372036854775807 := by simp only [List.length_append, List.length_cons, List.length_nil] at hw1 ⊢; omega
    (repeat ((conv => whnf); (first | with_reducible refine exE _ (w_inc (by omega)) ?_ | refine exR ?_ | refine gd (enters_of Tryz.func34 rfl rfl) hI ?_ | refine tT ?_ | refine lQ ?_ | refine exI _ rfl (by assumption) ?_)))
    refine ⟨i + 1, by omega, by omega, (by rw [hs]; exact fiE), fiO⟩
  · have hi2 : l.take i = l := List.take_of_length_le (by omega)
    rw [hi2]
    (repeat ((conv => whnf); (first | refine exR ?_ | refine tF ?_)))
    exact ⟨eN, rS, fiO⟩
end Go.Proofs.YtddmcmkhjkleoaaGreatDoor
end

section
namespace Go.Proofs.YtddmcmkhjkleoaaGreatDoor
open Go.RowKit

theorem nums_one (n : Int) (h1 : -9223372036854775808 ≤ n) (h2 : n ≤ 9223372036854775807) : (numsM [n]).length ≤ 22 := by
  have := Lib.itoa_length_le n h1 h2
  simp [numsM]; omega
theorem str_u (s : String) (l : List UInt8) (h : s.toUTF8.data.toList = l) : strU s = l := h
theorem constant_fn (k n : Int) (h1 : -9223372036854775808 ≤ n) (h2 : n ≤ 9223372036854775807) : FnD Tryz.prog 15 [.d (vaD (k, n))] (strT (constW (k, n))) := by
  have hL := nums_one n h1 h2
  have hN := numbers_fn [n] (by intro m hm; obtain rfl := List.mem_singleton.1 hm; exact ⟨h1, h2⟩) (by
    intro i hi
    match i, hi with
    | 0, _ => simp [numsM]
    | 1, _ => rw [show [n].take 1 = [n] from rfl]; omega)
  have hB := fmtB_fn (n == 1)
  unfold constW
  dsimp only
  generalize numsM [n] = t at *
  rw [show strU "nil" = [110, 105, 108] from by decide +kernel, show strU "int" = [105, 110, 116] from by decide +kernel, show strU "float" = [102, 108, 111, 97, 116] from by decide +kernel, show strU "text" = [116, 101, 120, 116] from by decide +kernel, show strU "call" = [99, 97, 108, 108] from by decide +kernel]
  by_cases k0 : k = 0
  · rw [if_pos k0]
    refine FnD.of1 (n := 39) [1001] fax_ok Tryz.func15 rfl rfl rfl (by rfl) (by kernel_rfl) (by intro _; rfl) fun Γ hA hbA => ?_
    (repeat ((conv => whnf); (first | refine exR ?_ | refine tT ?_)))
    exact ⟨eN, rS, fiO⟩
  · rw [if_neg k0]
    by_cases k1 : k = 1
    · rw [if_pos k1]
      refine FnD.of1 (n := 39) [1001] fax_ok Tryz.func15 rfl rfl rfl (by rfl) (by kernel_rfl) (by intro _; rfl) fun Γ hA hbA => ?_
      (repeat ((conv => whnf); (first | refine exR ?_ | refine gd (enters_of Tryz.func31 rfl rfl) hB ?_ | refine tT ?_ | refine tF ?_)))
      exact ⟨eN, rS, fiO⟩
    · rw [if_neg k1]
      by_cases k2 : k = 2
      · rw [if_pos k2]
        have l1 : ([105, 110, 116] : List UInt8).length + t.length ≤ 9223372036854775807 := by simp only [List.length_cons, List.length_nil]; omega
        refine FnD.of1 (n := 39) [1001] fax_ok Tryz.func15 rfl rfl rfl (by rfl) (by kernel_rfl) (by intro _; rfl) fun Γ hA hbA => ?_
        (repeat ((conv => whnf); (first | refine exR ?_ | refine gd (enters_of Tryz.func32 rfl rfl) hN ?_ | refine tT ?_ | refine tF ?_ | refine lQ ?_)))
        exact ⟨eN, rS, fiO⟩
      · rw [if_neg k2]
        by_cases k3 : k = 3
        · rw [if_pos k3]
          have l1 : ([102, 108, 111, 97, 116] : List UInt8).length + t.length ≤ 9223372036854775807 := by simp only [List.length_cons, List.length_nil]; omega
          refine FnD.of1 (n := 39) [1001] fax_ok Tryz.func15 rfl rfl rfl (by rfl) (by kernel_rfl) (by intro _; rfl) fun Γ hA hbA => ?_
          (repeat ((conv => whnf); (first | refine exR ?_ | refine gd (enters_of Tryz.func32 rfl rfl) hN ?_ | refine tT ?_ | refine tF ?_ | refine lQ ?_)))
          exact ⟨eN, rS, fiO⟩
        · rw [if_neg k3]
          by_cases k4 : k = 4
          · rw [if_pos k4]
            have l1 : ([116, 101, 120, 116] : List UInt8).length + t.length ≤ 9223372036854775807 := by simp only [List.length_cons, List.length_nil]; omega
            refine FnD.of1 (n := 39) [1001] fax_ok Tryz.func15 rfl rfl rfl (by rfl) (by kernel_rfl) (by intro _; rfl) fun Γ hA hbA => ?_
            (repeat ((conv => whnf); (first | refine exR ?_ | refine gd (enters_of Tryz.func32 rfl rfl) hN ?_ | refine tT ?_ | refine tF ?_ | refine lQ ?_)))
            exact ⟨eN, rS, fiO⟩
          · rw [if_neg k4]
            have l1 : ([99, 97, 108, 108] : List UInt8).length + t.length ≤ 9223372036854775807 := by simp only [List.length_cons, List.length_nil]; omega
            refine FnD.of1 (n := 39) [1001] fax_ok Tryz.func15 rfl rfl rfl (by rfl) (by kernel_rfl) (by intro _; rfl) fun Γ hA hbA => ?_
            (repeat ((conv => whnf); (first | refine exR ?_ | refine gd (enters_of Tryz.func32 rfl rfl) hN ?_ | refine tF ?_ | refine lQ ?_)))
            exact ⟨eN, rS, fiO⟩
end Go.Proofs.YtddmcmkhjkleoaaGreatDoor
end
