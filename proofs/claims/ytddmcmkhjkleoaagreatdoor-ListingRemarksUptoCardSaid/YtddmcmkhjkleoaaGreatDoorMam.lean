/-
  Ty, in one.
-/
import Derived.Test.YtddmcmkhjkleoaaGreatDoorMak
import Derived.Test.YtddmcmkhjkleoaaGreatDoorProg
section
namespace Go.Proofs.YtddmcmkhjkleoaaGreatDoor
open Go.RowKit

theorem ag0 : aggOf? Tryz.prog 0 = some (false, 1) := by kernel_rfl
theorem ag1 : aggOf? Tryz.prog 1 = some (false, 1) := by kernel_rfl
theorem ze1 : zeroOf? Tryz.prog 1 = some [Value.nilFunc] := by kernel_rfl
theorem ag2 : aggOf? Tryz.prog 2 = some (false, 1) := by kernel_rfl
theorem un2 : unOK Tryz.prog 2 (UK.i IntKind.i64) := by show Tryz.prog.underlying 2 = some _; kernel_rfl
theorem ze2 : zeroOf? Tryz.prog 2 = some [Value.int IntKind.i64 (0)] := by kernel_rfl
theorem ag3 : aggOf? Tryz.prog 3 = some (false, 1) := by kernel_rfl
theorem un3 : unOK Tryz.prog 3 (UK.i IntKind.i64) := by show Tryz.prog.underlying 3 = some _; kernel_rfl
theorem ze3 : zeroOf? Tryz.prog 3 = some [Value.int IntKind.i64 (0)] := by kernel_rfl
theorem ag4 : aggOf? Tryz.prog 4 = some (false, 1) := by kernel_rfl
theorem un4 : unOK Tryz.prog 4 (UK.b) := by show Tryz.prog.underlying 4 = some _; kernel_rfl
theorem ze4 : zeroOf? Tryz.prog 4 = some [Value.bool false] := by kernel_rfl
theorem ag5 : aggOf? Tryz.prog 5 = some (false, 1) := by kernel_rfl
theorem un5 : unOK Tryz.prog 5 (UK.i IntKind.u8) := by show Tryz.prog.underlying 5 = some _; kernel_rfl
theorem ze5 : zeroOf? Tryz.prog 5 = some [Value.int IntKind.u8 (0)] := by kernel_rfl
theorem ag6 : aggOf? Tryz.prog 6 = some (false, 1) := by kernel_rfl
theorem un6 : unOK Tryz.prog 6 (UK.i IntKind.u8) := by show Tryz.prog.underlying 6 = some _; kernel_rfl
theorem ze6 : zeroOf? Tryz.prog 6 = some [Value.int IntKind.u8 (0)] := by kernel_rfl
theorem ag7 : aggOf? Tryz.prog 7 = some (true, 4) := by kernel_rfl
theorem ze7 : zeroOf? Tryz.prog 7 = some [Value.int IntKind.i64 (0), Value.int IntKind.i64 (0), Value.bool false, Value.int IntKind.u8 (0)] := by kernel_rfl
theorem fo7_0 : fieldOff? Tryz.prog 7 0 = some 0 := by kernel_rfl
theorem fo7_1 : fieldOff? Tryz.prog 7 1 = some 1 := by kernel_rfl
theorem fo7_2 : fieldOff? Tryz.prog 7 2 = some 2 := by kernel_rfl
theorem fo7_3 : fieldOff? Tryz.prog 7 3 = some 3 := by kernel_rfl
theorem pl7 : PlacesOK Tryz.prog 7 [(0, 1), (1, 1), (2, 1), (3, 1)] := ⟨_, (by kernel_rfl : Tryz.prog.underlying 7 = some (.struct (Tryz.prog.fieldsOf 7))), fun w => by kernel_rfl⟩
theorem ag8 : aggOf? Tryz.prog 8 = some (true, 4) := by kernel_rfl
theorem ze8 : zeroOf? Tryz.prog 8 = some [Value.int IntKind.i64 (0), Value.int IntKind.i64 (0), Value.bool false, Value.int IntKind.u8 (0)] := by kernel_rfl
theorem fo8_0 : fieldOff? Tryz.prog 8 0 = some 0 := by kernel_rfl
theorem fo8_1 : fieldOff? Tryz.prog 8 1 = some 1 := by kernel_rfl
theorem fo8_2 : fieldOff? Tryz.prog 8 2 = some 2 := by kernel_rfl
theorem fo8_3 : fieldOff? Tryz.prog 8 3 = some 3 := by kernel_rfl
theorem pl8 : PlacesOK Tryz.prog 8 [(0, 1), (1, 1), (2, 1), (3, 1)] := ⟨_, (by kernel_rfl : Tryz.prog.underlying 8 = some (.struct (Tryz.prog.fieldsOf 8))), fun w => by kernel_rfl⟩
theorem ag9 : aggOf? Tryz.prog 9 = some (false, 1) := by kernel_rfl
theorem un9 : unOK Tryz.prog 9 (UK.s) := by show Tryz.prog.underlying 9 = some _; kernel_rfl
theorem ze9 : zeroOf? Tryz.prog 9 = some [Value.string { data := { toList := [] } }] := by kernel_rfl
theorem ag10 : aggOf? Tryz.prog 10 = some (false, 1) := by kernel_rfl
theorem un10 : unOK Tryz.prog 10 (UK.s) := by show Tryz.prog.underlying 10 = some _; kernel_rfl
theorem ze10 : zeroOf? Tryz.prog 10 = some [Value.string { data := { toList := [] } }] := by kernel_rfl
theorem ag11 : aggOf? Tryz.prog 11 = some (false, 1) := by kernel_rfl
theorem un11 : unOK Tryz.prog 11 (UK.s) := by show Tryz.prog.underlying 11 = some _; kernel_rfl
theorem ze11 : zeroOf? Tryz.prog 11 = some [Value.string { data := { toList := [] } }] := by kernel_rfl
theorem ag12 : aggOf? Tryz.prog 12 = some (false, 1) := by kernel_rfl
theorem un12 : unOK Tryz.prog 12 (UK.i IntKind.u64) := by show Tryz.prog.underlying 12 = some _; kernel_rfl
theorem ze12 : zeroOf? Tryz.prog 12 = some [Value.int IntKind.u64 (0)] := by kernel_rfl
theorem ag13 : aggOf? Tryz.prog 13 = some (true, 2) := by kernel_rfl
theorem ze13 : zeroOf? Tryz.prog 13 = some [Value.string { data := { toList := [] } }, Value.int IntKind.u64 (0)] := by kernel_rfl
theorem fo13_0 : fieldOff? Tryz.prog 13 0 = some 0 := by kernel_rfl
theorem fo13_1 : fieldOff? Tryz.prog 13 1 = some 1 := by kernel_rfl
theorem pl13 : PlacesOK Tryz.prog 13 [(0, 1), (1, 1)] := ⟨_, (by kernel_rfl : Tryz.prog.underlying 13 = some (.struct (Tryz.prog.fieldsOf 13))), fun w => by kernel_rfl⟩
theorem ag14 : aggOf? Tryz.prog 14 = some (true, 2) := by kernel_rfl
theorem ze14 : zeroOf? Tryz.prog 14 = some [Value.string { data := { toList := [] } }, Value.int IntKind.u64 (0)] := by kernel_rfl
theorem fo14_0 : fieldOff? Tryz.prog 14 0 = some 0 := by kernel_rfl
theorem fo14_1 : fieldOff? Tryz.prog 14 1 = some 1 := by kernel_rfl
theorem pl14 : PlacesOK Tryz.prog 14 [(0, 1), (1, 1)] := ⟨_, (by kernel_rfl : Tryz.prog.underlying 14 = some (.struct (Tryz.prog.fieldsOf 14))), fun w => by kernel_rfl⟩
theorem ag15 : aggOf? Tryz.prog 15 = some (false, 1) := by kernel_rfl
theorem ze15 : zeroOf? Tryz.prog 15 = some [Value.pointer none] := by kernel_rfl
theorem ag16 : aggOf? Tryz.prog 16 = some (false, 1) := by kernel_rfl
theorem ze16 : zeroOf? Tryz.prog 16 = some [Value.pointer none] := by kernel_rfl
theorem ag17 : aggOf? Tryz.prog 17 = some (false, 1) := by kernel_rfl
theorem ze17 : zeroOf? Tryz.prog 17 = some [Value.pointer none] := by kernel_rfl
theorem ag18 : aggOf? Tryz.prog 18 = some (true, 1) := by kernel_rfl
theorem ze18 : zeroOf? Tryz.prog 18 = some [Value.pointer none] := by kernel_rfl
theorem fo18_0 : fieldOff? Tryz.prog 18 0 = some 0 := by kernel_rfl
theorem pl18 : PlacesOK Tryz.prog 18 [(0, 1)] := ⟨_, (by kernel_rfl : Tryz.prog.underlying 18 = some (.struct (Tryz.prog.fieldsOf 18))), fun w => by kernel_rfl⟩
theorem ag19 : aggOf? Tryz.prog 19 = some (true, 1) := by kernel_rfl
theorem ze19 : zeroOf? Tryz.prog 19 = some [Value.pointer none] := by kernel_rfl
theorem fo19_0 : fieldOff? Tryz.prog 19 0 = some 0 := by kernel_rfl
theorem pl19 : PlacesOK Tryz.prog 19 [(0, 1)] := ⟨_, (by kernel_rfl : Tryz.prog.underlying 19 = some (.struct (Tryz.prog.fieldsOf 19))), fun w => by kernel_rfl⟩
theorem ag20 : aggOf? Tryz.prog 20 = some (false, 1) := by kernel_rfl
theorem ze20 : zeroOf? Tryz.prog 20 = some [Value.nilIface] := by kernel_rfl
theorem ag21 : aggOf? Tryz.prog 21 = some (false, 1) := by kernel_rfl
theorem un21 : unOK Tryz.prog 21 (UK.i IntKind.i32) := by show Tryz.prog.underlying 21 = some _; kernel_rfl
theorem ze21 : zeroOf? Tryz.prog 21 = some [Value.int IntKind.i32 (0)] := by kernel_rfl
theorem ag22 : aggOf? Tryz.prog 22 = some (false, 1) := by kernel_rfl
theorem el22 : elemOf? Tryz.prog 22 = some (39, 5) := by kernel_rfl
theorem ro22 : rowT? Tryz.prog 22 = some (39, 5, 72) := by kernel_rfl
theorem ze22 : zeroOf? Tryz.prog 22 = some [Value.slice none 0 0] := by kernel_rfl
theorem ag23 : aggOf? Tryz.prog 23 = some (false, 1) := by kernel_rfl
theorem el23 : elemOf? Tryz.prog 23 = some (55, 2) := by kernel_rfl
theorem ro23 : rowT? Tryz.prog 23 = some (55, 2, 16) := by kernel_rfl
theorem ze23 : zeroOf? Tryz.prog 23 = some [Value.slice none 0 0] := by kernel_rfl
theorem ag24 : aggOf? Tryz.prog 24 = some (false, 1) := by kernel_rfl
theorem el24 : elemOf? Tryz.prog 24 = some (9, 1) := by kernel_rfl
theorem ro24 : rowT? Tryz.prog 24 = some (9, 1, 16) := by kernel_rfl
theorem mk24 : mkT? Tryz.prog 24 = some (9, Value.string { data := { toList := [] } }) := by kernel_rfl
theorem ze24 : zeroOf? Tryz.prog 24 = some [Value.slice none 0 0] := by kernel_rfl
theorem ag25 : aggOf? Tryz.prog 25 = some (true, 3) := by kernel_rfl
theorem ze25 : zeroOf? Tryz.prog 25 = some [Value.slice none 0 0, Value.slice none 0 0, Value.slice none 0 0] := by kernel_rfl
theorem fo25_0 : fieldOff? Tryz.prog 25 0 = some 0 := by kernel_rfl
theorem fo25_1 : fieldOff? Tryz.prog 25 1 = some 1 := by kernel_rfl
theorem fo25_2 : fieldOff? Tryz.prog 25 2 = some 2 := by kernel_rfl
theorem pl25 : PlacesOK Tryz.prog 25 [(0, 1), (1, 1), (2, 1)] := ⟨_, (by kernel_rfl : Tryz.prog.underlying 25 = some (.struct (Tryz.prog.fieldsOf 25))), fun w => by kernel_rfl⟩
theorem ag26 : aggOf? Tryz.prog 26 = some (true, 3) := by kernel_rfl
theorem ze26 : zeroOf? Tryz.prog 26 = some [Value.slice none 0 0, Value.slice none 0 0, Value.slice none 0 0] := by kernel_rfl
theorem fo26_0 : fieldOff? Tryz.prog 26 0 = some 0 := by kernel_rfl
theorem fo26_1 : fieldOff? Tryz.prog 26 1 = some 1 := by kernel_rfl
theorem fo26_2 : fieldOff? Tryz.prog 26 2 = some 2 := by kernel_rfl
theorem pl26 : PlacesOK Tryz.prog 26 [(0, 1), (1, 1), (2, 1)] := ⟨_, (by kernel_rfl : Tryz.prog.underlying 26 = some (.struct (Tryz.prog.fieldsOf 26))), fun w => by kernel_rfl⟩
theorem ag27 : aggOf? Tryz.prog 27 = some (false, 1) := by kernel_rfl
theorem ze27 : zeroOf? Tryz.prog 27 = some [Value.nilFunc] := by kernel_rfl
theorem ag28 : aggOf? Tryz.prog 28 = some (false, 1) := by kernel_rfl
theorem un28 : unOK Tryz.prog 28 (UK.i IntKind.i64) := by show Tryz.prog.underlying 28 = some _; kernel_rfl
theorem ze28 : zeroOf? Tryz.prog 28 = some [Value.int IntKind.i64 (0)] := by kernel_rfl
theorem ag29 : aggOf? Tryz.prog 29 = some (false, 1) := by kernel_rfl
theorem ag30 : aggOf? Tryz.prog 30 = some (false, 1) := by kernel_rfl
theorem ze30 : zeroOf? Tryz.prog 30 = some [Value.nilFunc] := by kernel_rfl
theorem ag31 : aggOf? Tryz.prog 31 = some (false, 1) := by kernel_rfl
theorem ag32 : aggOf? Tryz.prog 32 = some (false, 1) := by kernel_rfl
theorem ze32 : zeroOf? Tryz.prog 32 = some [Value.nilFunc] := by kernel_rfl
theorem ag33 : aggOf? Tryz.prog 33 = some (false, 1) := by kernel_rfl
theorem ze33 : zeroOf? Tryz.prog 33 = some [Value.nilFunc] := by kernel_rfl
theorem ag34 : aggOf? Tryz.prog 34 = some (false, 1) := by kernel_rfl
theorem ze34 : zeroOf? Tryz.prog 34 = some [Value.nilFunc] := by kernel_rfl
theorem ag35 : aggOf? Tryz.prog 35 = some (false, 1) := by kernel_rfl
theorem el35 : elemOf? Tryz.prog 35 = some (5, 1) := by kernel_rfl
theorem ro35 : rowT? Tryz.prog 35 = some (5, 1, 1) := by kernel_rfl
theorem mk35 : mkT? Tryz.prog 35 = some (5, Value.int IntKind.u8 (0)) := by kernel_rfl
theorem ze35 : zeroOf? Tryz.prog 35 = some [Value.slice none 0 0] := by kernel_rfl
theorem ag36 : aggOf? Tryz.prog 36 = some (false, 1) := by kernel_rfl
theorem el36 : elemOf? Tryz.prog 36 = some (3, 1) := by kernel_rfl
theorem ro36 : rowT? Tryz.prog 36 = some (3, 1, 8) := by kernel_rfl
theorem mk36 : mkT? Tryz.prog 36 = some (3, Value.int IntKind.i64 (0)) := by kernel_rfl
theorem ze36 : zeroOf? Tryz.prog 36 = some [Value.slice none 0 0] := by kernel_rfl
theorem ag37 : aggOf? Tryz.prog 37 = some (false, 1) := by kernel_rfl
theorem el37 : elemOf? Tryz.prog 37 = some (41, 5) := by kernel_rfl
theorem ro37 : rowT? Tryz.prog 37 = some (41, 5, 40) := by kernel_rfl
theorem ze37 : zeroOf? Tryz.prog 37 = some [Value.slice none 0 0] := by kernel_rfl
theorem ag38 : aggOf? Tryz.prog 38 = some (true, 5) := by kernel_rfl
theorem ze38 : zeroOf? Tryz.prog 38 = some [Value.int IntKind.i64 (0), Value.int IntKind.i64 (0), Value.bool false, Value.slice none 0 0, Value.slice none 0 0] := by kernel_rfl
theorem fo38_0 : fieldOff? Tryz.prog 38 0 = some 0 := by kernel_rfl
theorem fo38_1 : fieldOff? Tryz.prog 38 1 = some 1 := by kernel_rfl
theorem fo38_2 : fieldOff? Tryz.prog 38 2 = some 2 := by kernel_rfl
theorem fo38_3 : fieldOff? Tryz.prog 38 3 = some 3 := by kernel_rfl
theorem fo38_4 : fieldOff? Tryz.prog 38 4 = some 4 := by kernel_rfl
theorem pl38 : PlacesOK Tryz.prog 38 [(0, 1), (1, 1), (2, 1), (3, 1), (4, 1)] := ⟨_, (by kernel_rfl : Tryz.prog.underlying 38 = some (.struct (Tryz.prog.fieldsOf 38))), fun w => by kernel_rfl⟩
theorem ag39 : aggOf? Tryz.prog 39 = some (true, 5) := by kernel_rfl
theorem ze39 : zeroOf? Tryz.prog 39 = some [Value.int IntKind.i64 (0), Value.int IntKind.i64 (0), Value.bool false, Value.slice none 0 0, Value.slice none 0 0] := by kernel_rfl
theorem fo39_0 : fieldOff? Tryz.prog 39 0 = some 0 := by kernel_rfl
theorem fo39_1 : fieldOff? Tryz.prog 39 1 = some 1 := by kernel_rfl
theorem fo39_2 : fieldOff? Tryz.prog 39 2 = some 2 := by kernel_rfl
theorem fo39_3 : fieldOff? Tryz.prog 39 3 = some 3 := by kernel_rfl
theorem fo39_4 : fieldOff? Tryz.prog 39 4 = some 4 := by kernel_rfl
theorem pl39 : PlacesOK Tryz.prog 39 [(0, 1), (1, 1), (2, 1), (3, 1), (4, 1)] := ⟨_, (by kernel_rfl : Tryz.prog.underlying 39 = some (.struct (Tryz.prog.fieldsOf 39))), fun w => by kernel_rfl⟩
theorem ag40 : aggOf? Tryz.prog 40 = some (true, 5) := by kernel_rfl
theorem ze40 : zeroOf? Tryz.prog 40 = some [Value.int IntKind.i64 (0), Value.int IntKind.i64 (0), Value.int IntKind.i64 (0), Value.int IntKind.i64 (0), Value.int IntKind.i64 (0)] := by kernel_rfl
theorem fo40_0 : fieldOff? Tryz.prog 40 0 = some 0 := by kernel_rfl
theorem fo40_1 : fieldOff? Tryz.prog 40 1 = some 1 := by kernel_rfl
theorem fo40_2 : fieldOff? Tryz.prog 40 2 = some 2 := by kernel_rfl
theorem fo40_3 : fieldOff? Tryz.prog 40 3 = some 3 := by kernel_rfl
theorem fo40_4 : fieldOff? Tryz.prog 40 4 = some 4 := by kernel_rfl
theorem pl40 : PlacesOK Tryz.prog 40 [(0, 1), (1, 1), (2, 1), (3, 1), (4, 1)] := ⟨_, (by kernel_rfl : Tryz.prog.underlying 40 = some (.struct (Tryz.prog.fieldsOf 40))), fun w => by kernel_rfl⟩
theorem ag41 : aggOf? Tryz.prog 41 = some (true, 5) := by kernel_rfl
theorem ze41 : zeroOf? Tryz.prog 41 = some [Value.int IntKind.i64 (0), Value.int IntKind.i64 (0), Value.int IntKind.i64 (0), Value.int IntKind.i64 (0), Value.int IntKind.i64 (0)] := by kernel_rfl
theorem fo41_0 : fieldOff? Tryz.prog 41 0 = some 0 := by kernel_rfl
theorem fo41_1 : fieldOff? Tryz.prog 41 1 = some 1 := by kernel_rfl
theorem fo41_2 : fieldOff? Tryz.prog 41 2 = some 2 := by kernel_rfl
theorem fo41_3 : fieldOff? Tryz.prog 41 3 = some 3 := by kernel_rfl
theorem fo41_4 : fieldOff? Tryz.prog 41 4 = some 4 := by kernel_rfl
theorem pl41 : PlacesOK Tryz.prog 41 [(0, 1), (1, 1), (2, 1), (3, 1), (4, 1)] := ⟨_, (by kernel_rfl : Tryz.prog.underlying 41 = some (.struct (Tryz.prog.fieldsOf 41))), fun w => by kernel_rfl⟩
theorem ag42 : aggOf? Tryz.prog 42 = some (false, 1) := by kernel_rfl
theorem ze42 : zeroOf? Tryz.prog 42 = some [Value.nilFunc] := by kernel_rfl
theorem ag43 : aggOf? Tryz.prog 43 = some (false, 1) := by kernel_rfl
theorem ze43 : zeroOf? Tryz.prog 43 = some [Value.nilFunc] := by kernel_rfl
theorem ag44 : aggOf? Tryz.prog 44 = some (false, 1) := by kernel_rfl
theorem ze44 : zeroOf? Tryz.prog 44 = some [Value.nilFunc] := by kernel_rfl
theorem ag45 : aggOf? Tryz.prog 45 = some (false, 1) := by kernel_rfl
theorem ze45 : zeroOf? Tryz.prog 45 = some [Value.pointer none] := by kernel_rfl
theorem ag46 : aggOf? Tryz.prog 46 = some (true, 2) := by kernel_rfl
theorem ze46 : zeroOf? Tryz.prog 46 = some [Value.pointer none, Value.slice none 0 0] := by kernel_rfl
theorem fo46_0 : fieldOff? Tryz.prog 46 0 = some 0 := by kernel_rfl
theorem fo46_1 : fieldOff? Tryz.prog 46 1 = some 1 := by kernel_rfl
theorem pl46 : PlacesOK Tryz.prog 46 [(0, 1), (1, 1)] := ⟨_, (by kernel_rfl : Tryz.prog.underlying 46 = some (.struct (Tryz.prog.fieldsOf 46))), fun w => by kernel_rfl⟩
theorem ag47 : aggOf? Tryz.prog 47 = some (true, 2) := by kernel_rfl
theorem ze47 : zeroOf? Tryz.prog 47 = some [Value.pointer none, Value.slice none 0 0] := by kernel_rfl
theorem fo47_0 : fieldOff? Tryz.prog 47 0 = some 0 := by kernel_rfl
theorem fo47_1 : fieldOff? Tryz.prog 47 1 = some 1 := by kernel_rfl
theorem pl47 : PlacesOK Tryz.prog 47 [(0, 1), (1, 1)] := ⟨_, (by kernel_rfl : Tryz.prog.underlying 47 = some (.struct (Tryz.prog.fieldsOf 47))), fun w => by kernel_rfl⟩
theorem ag48 : aggOf? Tryz.prog 48 = some (false, 1) := by kernel_rfl
theorem ze48 : zeroOf? Tryz.prog 48 = some [Value.nilFunc] := by kernel_rfl
theorem ag49 : aggOf? Tryz.prog 49 = some (false, 1) := by kernel_rfl
theorem ze49 : zeroOf? Tryz.prog 49 = some [Value.nilIface] := by kernel_rfl
theorem ag50 : aggOf? Tryz.prog 50 = some (false, 1) := by kernel_rfl
theorem ze50 : zeroOf? Tryz.prog 50 = some [Value.nilIface] := by kernel_rfl
theorem ag51 : aggOf? Tryz.prog 51 = some (false, 1) := by kernel_rfl
theorem ag52 : aggOf? Tryz.prog 52 = some (false, 1) := by kernel_rfl
theorem ze52 : zeroOf? Tryz.prog 52 = some [Value.nilFunc] := by kernel_rfl
theorem ag53 : aggOf? Tryz.prog 53 = some (false, 1) := by kernel_rfl
theorem ze53 : zeroOf? Tryz.prog 53 = some [Value.nilFunc] := by kernel_rfl
theorem ag54 : aggOf? Tryz.prog 54 = some (true, 2) := by kernel_rfl
theorem ze54 : zeroOf? Tryz.prog 54 = some [Value.int IntKind.i64 (0), Value.int IntKind.i64 (0)] := by kernel_rfl
theorem fo54_0 : fieldOff? Tryz.prog 54 0 = some 0 := by kernel_rfl
theorem fo54_1 : fieldOff? Tryz.prog 54 1 = some 1 := by kernel_rfl
theorem pl54 : PlacesOK Tryz.prog 54 [(0, 1), (1, 1)] := ⟨_, (by kernel_rfl : Tryz.prog.underlying 54 = some (.struct (Tryz.prog.fieldsOf 54))), fun w => by kernel_rfl⟩
theorem ag55 : aggOf? Tryz.prog 55 = some (true, 2) := by kernel_rfl
theorem ze55 : zeroOf? Tryz.prog 55 = some [Value.int IntKind.i64 (0), Value.int IntKind.i64 (0)] := by kernel_rfl
theorem fo55_0 : fieldOff? Tryz.prog 55 0 = some 0 := by kernel_rfl
theorem fo55_1 : fieldOff? Tryz.prog 55 1 = some 1 := by kernel_rfl
theorem pl55 : PlacesOK Tryz.prog 55 [(0, 1), (1, 1)] := ⟨_, (by kernel_rfl : Tryz.prog.underlying 55 = some (.struct (Tryz.prog.fieldsOf 55))), fun w => by kernel_rfl⟩
theorem ag56 : aggOf? Tryz.prog 56 = some (false, 1) := by kernel_rfl
theorem ze56 : zeroOf? Tryz.prog 56 = some [Value.nilFunc] := by kernel_rfl
theorem ag57 : aggOf? Tryz.prog 57 = some (false, 1) := by kernel_rfl
theorem ze57 : zeroOf? Tryz.prog 57 = some [Value.nilFunc] := by kernel_rfl
theorem ag58 : aggOf? Tryz.prog 58 = some (false, 1) := by kernel_rfl
theorem ze58 : zeroOf? Tryz.prog 58 = some [Value.nilFunc] := by kernel_rfl
theorem ag59 : aggOf? Tryz.prog 59 = some (false, 1) := by kernel_rfl
theorem ze59 : zeroOf? Tryz.prog 59 = some [Value.pointer none] := by kernel_rfl
theorem ag60 : aggOf? Tryz.prog 60 = some (false, 1) := by kernel_rfl
theorem ze60 : zeroOf? Tryz.prog 60 = some [Value.nilFunc] := by kernel_rfl
theorem ag61 : aggOf? Tryz.prog 61 = some (false, 1) := by kernel_rfl
theorem mt61 : mapZ? Tryz.prog 61 = some (9, TypeDesc.string, 3, Value.int IntKind.i64 (0)) := by kernel_rfl
theorem ze61 : zeroOf? Tryz.prog 61 = some [Value.map none] := by kernel_rfl
theorem ag62 : aggOf? Tryz.prog 62 = some (true, 5) := by kernel_rfl
theorem ze62 : zeroOf? Tryz.prog 62 = some [Value.slice none 0 0, Value.slice none 0 0, Value.slice none 0 0, Value.map none, Value.bool false] := by kernel_rfl
theorem fo62_0 : fieldOff? Tryz.prog 62 0 = some 0 := by kernel_rfl
theorem fo62_1 : fieldOff? Tryz.prog 62 1 = some 3 := by kernel_rfl
theorem fo62_2 : fieldOff? Tryz.prog 62 2 = some 4 := by kernel_rfl
theorem pl62 : PlacesOK Tryz.prog 62 [(0, 3), (3, 1), (4, 1)] := ⟨_, (by kernel_rfl : Tryz.prog.underlying 62 = some (.struct (Tryz.prog.fieldsOf 62))), fun w => by kernel_rfl⟩
theorem ag63 : aggOf? Tryz.prog 63 = some (true, 5) := by kernel_rfl
theorem ze63 : zeroOf? Tryz.prog 63 = some [Value.slice none 0 0, Value.slice none 0 0, Value.slice none 0 0, Value.map none, Value.bool false] := by kernel_rfl
theorem fo63_0 : fieldOff? Tryz.prog 63 0 = some 0 := by kernel_rfl
theorem fo63_1 : fieldOff? Tryz.prog 63 1 = some 3 := by kernel_rfl
theorem fo63_2 : fieldOff? Tryz.prog 63 2 = some 4 := by kernel_rfl
theorem pl63 : PlacesOK Tryz.prog 63 [(0, 3), (3, 1), (4, 1)] := ⟨_, (by kernel_rfl : Tryz.prog.underlying 63 = some (.struct (Tryz.prog.fieldsOf 63))), fun w => by kernel_rfl⟩
theorem ag64 : aggOf? Tryz.prog 64 = some (false, 1) := by kernel_rfl
theorem ze64 : zeroOf? Tryz.prog 64 = some [Value.nilFunc] := by kernel_rfl
theorem ag65 : aggOf? Tryz.prog 65 = some (false, 1) := by kernel_rfl
theorem ze65 : zeroOf? Tryz.prog 65 = some [Value.nilFunc] := by kernel_rfl
theorem ag66 : aggOf? Tryz.prog 66 = some (false, 1) := by kernel_rfl
theorem ze66 : zeroOf? Tryz.prog 66 = some [Value.nilFunc] := by kernel_rfl
theorem ag67 : aggOf? Tryz.prog 67 = some (false, 1) := by kernel_rfl
theorem ze67 : zeroOf? Tryz.prog 67 = some [Value.nilFunc] := by kernel_rfl
theorem ag68 : aggOf? Tryz.prog 68 = some (false, 1) := by kernel_rfl
theorem ze68 : zeroOf? Tryz.prog 68 = some [Value.nilFunc] := by kernel_rfl
theorem ag69 : aggOf? Tryz.prog 69 = some (false, 1) := by kernel_rfl
theorem ze69 : zeroOf? Tryz.prog 69 = some [Value.nilFunc] := by kernel_rfl
theorem ag70 : aggOf? Tryz.prog 70 = some (false, 1) := by kernel_rfl
theorem ze70 : zeroOf? Tryz.prog 70 = some [Value.nilFunc] := by kernel_rfl
theorem ag71 : aggOf? Tryz.prog 71 = some (false, 1) := by kernel_rfl
theorem ze71 : zeroOf? Tryz.prog 71 = some [Value.nilFunc] := by kernel_rfl
theorem ag72 : aggOf? Tryz.prog 72 = some (false, 1) := by kernel_rfl
theorem ze72 : zeroOf? Tryz.prog 72 = some [Value.nilFunc] := by kernel_rfl
theorem ag73 : aggOf? Tryz.prog 73 = some (false, 1) := by kernel_rfl
theorem ze73 : zeroOf? Tryz.prog 73 = some [Value.nilFunc] := by kernel_rfl
theorem ag74 : aggOf? Tryz.prog 74 = some (false, 1) := by kernel_rfl
theorem ze74 : zeroOf? Tryz.prog 74 = some [Value.nilFunc] := by kernel_rfl
theorem ag75 : aggOf? Tryz.prog 75 = some (false, 1) := by kernel_rfl
theorem un75 : unOK Tryz.prog 75 (UK.i IntKind.u64) := by show Tryz.prog.underlying 75 = some _; kernel_rfl
theorem ze75 : zeroOf? Tryz.prog 75 = some [Value.int IntKind.u64 (0)] := by kernel_rfl
theorem ag76 : aggOf? Tryz.prog 76 = some (false, 1) := by kernel_rfl
theorem ze76 : zeroOf? Tryz.prog 76 = some [Value.nilFunc] := by kernel_rfl
theorem ag77 : aggOf? Tryz.prog 77 = some (false, 1) := by kernel_rfl
theorem ze77 : zeroOf? Tryz.prog 77 = some [Value.nilFunc] := by kernel_rfl
theorem ag78 : aggOf? Tryz.prog 78 = some (false, 1) := by kernel_rfl
theorem ze78 : zeroOf? Tryz.prog 78 = some [Value.nilFunc] := by kernel_rfl
theorem ag79 : aggOf? Tryz.prog 79 = some (false, 1) := by kernel_rfl
theorem ze79 : zeroOf? Tryz.prog 79 = some [Value.nilFunc] := by kernel_rfl
theorem ag80 : aggOf? Tryz.prog 80 = some (false, 1) := by kernel_rfl
theorem ze80 : zeroOf? Tryz.prog 80 = some [Value.pointer none] := by kernel_rfl
theorem ag81 : aggOf? Tryz.prog 81 = some (false, 1) := by kernel_rfl
theorem ze81 : zeroOf? Tryz.prog 81 = some [Value.nilFunc] := by kernel_rfl
theorem ag82 : aggOf? Tryz.prog 82 = some (false, 1) := by kernel_rfl
theorem ze82 : zeroOf? Tryz.prog 82 = some [Value.nilFunc] := by kernel_rfl
theorem ag83 : aggOf? Tryz.prog 83 = some (false, 1) := by kernel_rfl
theorem ag84 : aggOf? Tryz.prog 84 = some (false, 1) := by kernel_rfl
theorem ze84 : zeroOf? Tryz.prog 84 = some [Value.nilFunc] := by kernel_rfl
theorem ag85 : aggOf? Tryz.prog 85 = some (false, 1) := by kernel_rfl
theorem ze85 : zeroOf? Tryz.prog 85 = some [Value.nilFunc] := by kernel_rfl
theorem ag86 : aggOf? Tryz.prog 86 = some (false, 1) := by kernel_rfl
theorem ag87 : aggOf? Tryz.prog 87 = some (false, 1) := by kernel_rfl
theorem ze87 : zeroOf? Tryz.prog 87 = some [Value.nilFunc] := by kernel_rfl
theorem ag88 : aggOf? Tryz.prog 88 = some (false, 1) := by kernel_rfl
theorem ze88 : zeroOf? Tryz.prog 88 = some [Value.nilFunc] := by kernel_rfl
theorem ag89 : aggOf? Tryz.prog 89 = some (false, 1) := by kernel_rfl
theorem ag90 : aggOf? Tryz.prog 90 = some (false, 1) := by kernel_rfl
theorem ze90 : zeroOf? Tryz.prog 90 = some [Value.pointer none] := by kernel_rfl
theorem ag91 : aggOf? Tryz.prog 91 = some (false, 1) := by kernel_rfl
theorem ze91 : zeroOf? Tryz.prog 91 = some [Value.nilFunc] := by kernel_rfl
theorem ag92 : aggOf? Tryz.prog 92 = some (false, 1) := by kernel_rfl
theorem ze92 : zeroOf? Tryz.prog 92 = some [Value.nilFunc] := by kernel_rfl
theorem ag93 : aggOf? Tryz.prog 93 = some (false, 1) := by kernel_rfl
theorem ze93 : zeroOf? Tryz.prog 93 = some [Value.nilFunc] := by kernel_rfl
theorem ag94 : aggOf? Tryz.prog 94 = some (false, 1) := by kernel_rfl
theorem ze94 : zeroOf? Tryz.prog 94 = some [Value.nilFunc] := by kernel_rfl
theorem ag95 : aggOf? Tryz.prog 95 = some (false, 1) := by kernel_rfl
theorem ze95 : zeroOf? Tryz.prog 95 = some [Value.nilFunc] := by kernel_rfl
theorem ag96 : aggOf? Tryz.prog 96 = some (false, 1) := by kernel_rfl
theorem ze96 : zeroOf? Tryz.prog 96 = some [Value.nilFunc] := by kernel_rfl
theorem ag97 : aggOf? Tryz.prog 97 = some (false, 1) := by kernel_rfl
theorem ze97 : zeroOf? Tryz.prog 97 = some [Value.nilFunc] := by kernel_rfl
theorem ag98 : aggOf? Tryz.prog 98 = some (false, 1) := by kernel_rfl
theorem ze98 : zeroOf? Tryz.prog 98 = some [Value.nilFunc] := by kernel_rfl
theorem ag99 : aggOf? Tryz.prog 99 = some (true, 8) := by kernel_rfl
theorem ze99 : zeroOf? Tryz.prog 99 = some [Value.slice none 0 0, Value.slice none 0 0, Value.slice none 0 0, Value.int IntKind.i64 (0), Value.int IntKind.i64 (0), Value.bool false, Value.slice none 0 0, Value.slice none 0 0] := by kernel_rfl
theorem fo99_0 : fieldOff? Tryz.prog 99 0 = some 0 := by kernel_rfl
theorem fo99_1 : fieldOff? Tryz.prog 99 1 = some 3 := by kernel_rfl
theorem pl99 : PlacesOK Tryz.prog 99 [(0, 3), (3, 5)] := ⟨_, (by kernel_rfl : Tryz.prog.underlying 99 = some (.struct (Tryz.prog.fieldsOf 99))), fun w => by kernel_rfl⟩
theorem ag100 : aggOf? Tryz.prog 100 = some (true, 8) := by kernel_rfl
theorem ze100 : zeroOf? Tryz.prog 100 = some [Value.slice none 0 0, Value.slice none 0 0, Value.slice none 0 0, Value.int IntKind.i64 (0), Value.int IntKind.i64 (0), Value.bool false, Value.slice none 0 0, Value.slice none 0 0] := by kernel_rfl
theorem fo100_0 : fieldOff? Tryz.prog 100 0 = some 0 := by kernel_rfl
theorem fo100_1 : fieldOff? Tryz.prog 100 1 = some 3 := by kernel_rfl
theorem pl100 : PlacesOK Tryz.prog 100 [(0, 3), (3, 5)] := ⟨_, (by kernel_rfl : Tryz.prog.underlying 100 = some (.struct (Tryz.prog.fieldsOf 100))), fun w => by kernel_rfl⟩
theorem ag101 : aggOf? Tryz.prog 101 = some (false, 1) := by kernel_rfl
theorem ze101 : zeroOf? Tryz.prog 101 = some [Value.nilFunc] := by kernel_rfl
theorem ag102 : aggOf? Tryz.prog 102 = some (false, 1) := by kernel_rfl
theorem el102 : elemOf? Tryz.prog 102 = some (153, 1) := by kernel_rfl
theorem ro102 : rowT? Tryz.prog 102 = some (153, 1, 24) := by kernel_rfl
theorem mk102 : mkT? Tryz.prog 102 = some (153, Value.slice none 0 0) := by kernel_rfl
theorem ze102 : zeroOf? Tryz.prog 102 = some [Value.slice none 0 0] := by kernel_rfl
theorem ag103 : aggOf? Tryz.prog 103 = some (false, 1) := by kernel_rfl
theorem el103 : elemOf? Tryz.prog 103 = some (4, 1) := by kernel_rfl
theorem ro103 : rowT? Tryz.prog 103 = some (4, 1, 1) := by kernel_rfl
theorem mk103 : mkT? Tryz.prog 103 = some (4, Value.bool false) := by kernel_rfl
theorem ze103 : zeroOf? Tryz.prog 103 = some [Value.slice none 0 0] := by kernel_rfl
theorem ag104 : aggOf? Tryz.prog 104 = some (false, 1) := by kernel_rfl
theorem ag105 : aggOf? Tryz.prog 105 = some (false, 1) := by kernel_rfl
theorem ze105 : zeroOf? Tryz.prog 105 = some [Value.nilFunc] := by kernel_rfl
theorem ag106 : aggOf? Tryz.prog 106 = some (true, 256) := by kernel_rfl
theorem ar106 : arrOf? Tryz.prog 106 = some (256, 1) := by kernel_rfl
theorem ag107 : aggOf? Tryz.prog 107 = some (false, 1) := by kernel_rfl
theorem ze107 : zeroOf? Tryz.prog 107 = some [Value.nilFunc] := by kernel_rfl
theorem ag108 : aggOf? Tryz.prog 108 = some (false, 1) := by kernel_rfl
theorem ze108 : zeroOf? Tryz.prog 108 = some [Value.nilFunc] := by kernel_rfl
theorem ag109 : aggOf? Tryz.prog 109 = some (false, 1) := by kernel_rfl
theorem ze109 : zeroOf? Tryz.prog 109 = some [Value.pointer none] := by kernel_rfl
theorem ag110 : aggOf? Tryz.prog 110 = some (false, 1) := by kernel_rfl
theorem ze110 : zeroOf? Tryz.prog 110 = some [Value.nilFunc] := by kernel_rfl
theorem ag111 : aggOf? Tryz.prog 111 = some (false, 1) := by kernel_rfl
theorem ze111 : zeroOf? Tryz.prog 111 = some [Value.nilFunc] := by kernel_rfl
theorem ag112 : aggOf? Tryz.prog 112 = some (false, 1) := by kernel_rfl
theorem ag113 : aggOf? Tryz.prog 113 = some (false, 1) := by kernel_rfl
theorem ze113 : zeroOf? Tryz.prog 113 = some [Value.nilFunc] := by kernel_rfl
theorem ag114 : aggOf? Tryz.prog 114 = some (false, 1) := by kernel_rfl
theorem ze114 : zeroOf? Tryz.prog 114 = some [Value.nilFunc] := by kernel_rfl
theorem ag115 : aggOf? Tryz.prog 115 = some (false, 1) := by kernel_rfl
theorem ze115 : zeroOf? Tryz.prog 115 = some [Value.nilFunc] := by kernel_rfl
theorem ag116 : aggOf? Tryz.prog 116 = some (true, 256) := by kernel_rfl
theorem ar116 : arrOf? Tryz.prog 116 = some (256, 1) := by kernel_rfl
theorem ag117 : aggOf? Tryz.prog 117 = some (true, 256) := by kernel_rfl
theorem ar117 : arrOf? Tryz.prog 117 = some (256, 1) := by kernel_rfl
theorem ag118 : aggOf? Tryz.prog 118 = some (false, 1) := by kernel_rfl
theorem ag119 : aggOf? Tryz.prog 119 = some (false, 1) := by kernel_rfl
theorem ze119 : zeroOf? Tryz.prog 119 = some [Value.nilFunc] := by kernel_rfl
theorem ag120 : aggOf? Tryz.prog 120 = some (false, 1) := by kernel_rfl
theorem ze120 : zeroOf? Tryz.prog 120 = some [Value.nilFunc] := by kernel_rfl
theorem ag121 : aggOf? Tryz.prog 121 = some (false, 1) := by kernel_rfl
theorem ze121 : zeroOf? Tryz.prog 121 = some [Value.pointer none] := by kernel_rfl
theorem ag122 : aggOf? Tryz.prog 122 = some (false, 1) := by kernel_rfl
theorem ze122 : zeroOf? Tryz.prog 122 = some [Value.nilFunc] := by kernel_rfl
theorem ag123 : aggOf? Tryz.prog 123 = some (false, 1) := by kernel_rfl
theorem ag124 : aggOf? Tryz.prog 124 = some (false, 1) := by kernel_rfl
theorem ze124 : zeroOf? Tryz.prog 124 = some [Value.nilFunc] := by kernel_rfl
theorem ag125 : aggOf? Tryz.prog 125 = some (false, 1) := by kernel_rfl
theorem ze125 : zeroOf? Tryz.prog 125 = some [Value.nilFunc] := by kernel_rfl
theorem ag126 : aggOf? Tryz.prog 126 = some (false, 1) := by kernel_rfl
theorem ze126 : zeroOf? Tryz.prog 126 = some [Value.nilFunc] := by kernel_rfl
theorem ag127 : aggOf? Tryz.prog 127 = some (false, 1) := by kernel_rfl
theorem ze127 : zeroOf? Tryz.prog 127 = some [Value.nilFunc] := by kernel_rfl
theorem ag128 : aggOf? Tryz.prog 128 = some (false, 1) := by kernel_rfl
theorem ze128 : zeroOf? Tryz.prog 128 = some [Value.nilFunc] := by kernel_rfl
theorem ag129 : aggOf? Tryz.prog 129 = some (false, 1) := by kernel_rfl
theorem ze129 : zeroOf? Tryz.prog 129 = some [Value.float FloatKind.f64 0] := by kernel_rfl
theorem ag130 : aggOf? Tryz.prog 130 = some (false, 1) := by kernel_rfl
theorem ze130 : zeroOf? Tryz.prog 130 = some [Value.nilFunc] := by kernel_rfl
theorem ag131 : aggOf? Tryz.prog 131 = some (false, 1) := by kernel_rfl
theorem ze131 : zeroOf? Tryz.prog 131 = some [Value.nilFunc] := by kernel_rfl
theorem ag132 : aggOf? Tryz.prog 132 = some (false, 1) := by kernel_rfl
theorem ze132 : zeroOf? Tryz.prog 132 = some [Value.nilFunc] := by kernel_rfl
theorem ag133 : aggOf? Tryz.prog 133 = some (false, 1) := by kernel_rfl
theorem ze133 : zeroOf? Tryz.prog 133 = some [Value.pointer none] := by kernel_rfl
theorem ag134 : aggOf? Tryz.prog 134 = some (true, 9) := by kernel_rfl
theorem ze134 : zeroOf? Tryz.prog 134 = some [Value.int IntKind.i64 (0), Value.int IntKind.i64 (0), Value.bool false, Value.slice none 0 0, Value.slice none 0 0, Value.slice none 0 0, Value.slice none 0 0, Value.slice none 0 0, Value.bool false] := by kernel_rfl
theorem fo134_0 : fieldOff? Tryz.prog 134 0 = some 0 := by kernel_rfl
theorem fo134_1 : fieldOff? Tryz.prog 134 1 = some 5 := by kernel_rfl
theorem fo134_2 : fieldOff? Tryz.prog 134 2 = some 6 := by kernel_rfl
theorem fo134_3 : fieldOff? Tryz.prog 134 3 = some 7 := by kernel_rfl
theorem fo134_4 : fieldOff? Tryz.prog 134 4 = some 8 := by kernel_rfl
theorem pl134 : PlacesOK Tryz.prog 134 [(0, 5), (5, 1), (6, 1), (7, 1), (8, 1)] := ⟨_, (by kernel_rfl : Tryz.prog.underlying 134 = some (.struct (Tryz.prog.fieldsOf 134))), fun w => by kernel_rfl⟩
theorem ag135 : aggOf? Tryz.prog 135 = some (true, 9) := by kernel_rfl
theorem ze135 : zeroOf? Tryz.prog 135 = some [Value.int IntKind.i64 (0), Value.int IntKind.i64 (0), Value.bool false, Value.slice none 0 0, Value.slice none 0 0, Value.slice none 0 0, Value.slice none 0 0, Value.slice none 0 0, Value.bool false] := by kernel_rfl
theorem fo135_0 : fieldOff? Tryz.prog 135 0 = some 0 := by kernel_rfl
theorem fo135_1 : fieldOff? Tryz.prog 135 1 = some 5 := by kernel_rfl
theorem fo135_2 : fieldOff? Tryz.prog 135 2 = some 6 := by kernel_rfl
theorem fo135_3 : fieldOff? Tryz.prog 135 3 = some 7 := by kernel_rfl
theorem fo135_4 : fieldOff? Tryz.prog 135 4 = some 8 := by kernel_rfl
theorem pl135 : PlacesOK Tryz.prog 135 [(0, 5), (5, 1), (6, 1), (7, 1), (8, 1)] := ⟨_, (by kernel_rfl : Tryz.prog.underlying 135 = some (.struct (Tryz.prog.fieldsOf 135))), fun w => by kernel_rfl⟩
theorem ag136 : aggOf? Tryz.prog 136 = some (false, 1) := by kernel_rfl
theorem ze136 : zeroOf? Tryz.prog 136 = some [Value.nilFunc] := by kernel_rfl
theorem ag137 : aggOf? Tryz.prog 137 = some (false, 1) := by kernel_rfl
theorem ze137 : zeroOf? Tryz.prog 137 = some [Value.nilFunc] := by kernel_rfl
theorem ag138 : aggOf? Tryz.prog 138 = some (false, 1) := by kernel_rfl
theorem el138 : elemOf? Tryz.prog 138 = some (140, 2) := by kernel_rfl
theorem ro138 : rowT? Tryz.prog 138 = some (140, 2, 16) := by kernel_rfl
theorem ze138 : zeroOf? Tryz.prog 138 = some [Value.slice none 0 0] := by kernel_rfl
theorem ag139 : aggOf? Tryz.prog 139 = some (true, 2) := by kernel_rfl
theorem ze139 : zeroOf? Tryz.prog 139 = some [Value.int IntKind.i64 (0), Value.int IntKind.i64 (0)] := by kernel_rfl
theorem fo139_0 : fieldOff? Tryz.prog 139 0 = some 0 := by kernel_rfl
theorem fo139_1 : fieldOff? Tryz.prog 139 1 = some 1 := by kernel_rfl
theorem pl139 : PlacesOK Tryz.prog 139 [(0, 1), (1, 1)] := ⟨_, (by kernel_rfl : Tryz.prog.underlying 139 = some (.struct (Tryz.prog.fieldsOf 139))), fun w => by kernel_rfl⟩
theorem ag140 : aggOf? Tryz.prog 140 = some (true, 2) := by kernel_rfl
theorem ze140 : zeroOf? Tryz.prog 140 = some [Value.int IntKind.i64 (0), Value.int IntKind.i64 (0)] := by kernel_rfl
theorem fo140_0 : fieldOff? Tryz.prog 140 0 = some 0 := by kernel_rfl
theorem fo140_1 : fieldOff? Tryz.prog 140 1 = some 1 := by kernel_rfl
theorem pl140 : PlacesOK Tryz.prog 140 [(0, 1), (1, 1)] := ⟨_, (by kernel_rfl : Tryz.prog.underlying 140 = some (.struct (Tryz.prog.fieldsOf 140))), fun w => by kernel_rfl⟩
theorem ag141 : aggOf? Tryz.prog 141 = some (false, 1) := by kernel_rfl
theorem un141 : unOK Tryz.prog 141 (UK.i IntKind.u32) := by show Tryz.prog.underlying 141 = some _; kernel_rfl
theorem ze141 : zeroOf? Tryz.prog 141 = some [Value.int IntKind.u32 (0)] := by kernel_rfl
theorem ag142 : aggOf? Tryz.prog 142 = some (false, 1) := by kernel_rfl
theorem ze142 : zeroOf? Tryz.prog 142 = some [Value.nilFunc] := by kernel_rfl
theorem ag143 : aggOf? Tryz.prog 143 = some (false, 1) := by kernel_rfl
theorem ze143 : zeroOf? Tryz.prog 143 = some [Value.pointer none] := by kernel_rfl
theorem ag144 : aggOf? Tryz.prog 144 = some (false, 1) := by kernel_rfl
theorem ze144 : zeroOf? Tryz.prog 144 = some [Value.nilFunc] := by kernel_rfl
theorem ag145 : aggOf? Tryz.prog 145 = some (false, 1) := by kernel_rfl
theorem ze145 : zeroOf? Tryz.prog 145 = some [Value.nilFunc] := by kernel_rfl
theorem ag146 : aggOf? Tryz.prog 146 = some (false, 1) := by kernel_rfl
theorem ze146 : zeroOf? Tryz.prog 146 = some [Value.nilFunc] := by kernel_rfl
theorem ag147 : aggOf? Tryz.prog 147 = some (false, 1) := by kernel_rfl
theorem ag148 : aggOf? Tryz.prog 148 = some (false, 1) := by kernel_rfl
theorem ze148 : zeroOf? Tryz.prog 148 = some [Value.nilFunc] := by kernel_rfl
theorem ag149 : aggOf? Tryz.prog 149 = some (false, 1) := by kernel_rfl
theorem ze149 : zeroOf? Tryz.prog 149 = some [Value.nilFunc] := by kernel_rfl
theorem ag150 : aggOf? Tryz.prog 150 = some (false, 1) := by kernel_rfl
theorem un150 : unOK Tryz.prog 150 (UK.i IntKind.u64) := by show Tryz.prog.underlying 150 = some _; kernel_rfl
theorem ze150 : zeroOf? Tryz.prog 150 = some [Value.int IntKind.u64 (0)] := by kernel_rfl
theorem ag151 : aggOf? Tryz.prog 151 = some (true, 39) := by kernel_rfl
theorem ar151 : arrOf? Tryz.prog 151 = some (39, 1) := by kernel_rfl
theorem ze151 : zeroOf? Tryz.prog 151 = some [Value.string { data := { toList := [] } }, Value.string { data := { toList := [] } }, Value.string { data := { toList := [] } }, Value.string { data := { toList := [] } }, Value.string { data := { toList := [] } }, Value.string { data := { toList := [] } }, Value.string { data := { toList := [] } }, Value.string { data := { toList := [] } }, Value.string { data := { toList := [] } }, Value.string { data := { toList := [] } }, Value.string { data := { toList := [] } }, Value.string { data := { toList := [] } }, Value.string { data := { toList := [] } }, Value.string { data := { toList := [] } }, Value.string { data := { toList := [] } }, Value.string { data := { toList := [] } }, Value.string { data := { toList := [] } }, Value.string { data := { toList := [] } }, Value.string { data := { toList := [] } }, Value.string { data := { toList := [] } }, Value.string { data := { toList := [] } }, Value.string { data := { toList := [] } }, Value.string { data := { toList := [] } }, Value.string { data := { toList := [] } }, Value.string { data := { toList := [] } }, Value.string { data := { toList := [] } }, Value.string { data := { toList := [] } }, Value.string { data := { toList := [] } }, Value.string { data := { toList := [] } }, Value.string { data := { toList := [] } }, Value.string { data := { toList := [] } }, Value.string { data := { toList := [] } }, Value.string { data := { toList := [] } }, Value.string { data := { toList := [] } }, Value.string { data := { toList := [] } }, Value.string { data := { toList := [] } }, Value.string { data := { toList := [] } }, Value.string { data := { toList := [] } }, Value.string { data := { toList := [] } }] := by kernel_rfl
theorem ag152 : aggOf? Tryz.prog 152 = some (false, 1) := by kernel_rfl
theorem ze152 : zeroOf? Tryz.prog 152 = some [Value.nilFunc] := by kernel_rfl
theorem ag153 : aggOf? Tryz.prog 153 = some (false, 1) := by kernel_rfl
theorem el153 : elemOf? Tryz.prog 153 = some (156, 2) := by kernel_rfl
theorem ro153 : rowT? Tryz.prog 153 = some (156, 2, 16) := by kernel_rfl
theorem ze153 : zeroOf? Tryz.prog 153 = some [Value.slice none 0 0] := by kernel_rfl
theorem ag154 : aggOf? Tryz.prog 154 = some (false, 1) := by kernel_rfl
theorem ze154 : zeroOf? Tryz.prog 154 = some [Value.nilFunc] := by kernel_rfl
theorem ag155 : aggOf? Tryz.prog 155 = some (true, 2) := by kernel_rfl
theorem ze155 : zeroOf? Tryz.prog 155 = some [Value.int IntKind.i64 (0), Value.int IntKind.i64 (0)] := by kernel_rfl
theorem fo155_0 : fieldOff? Tryz.prog 155 0 = some 0 := by kernel_rfl
theorem fo155_1 : fieldOff? Tryz.prog 155 1 = some 1 := by kernel_rfl
theorem pl155 : PlacesOK Tryz.prog 155 [(0, 1), (1, 1)] := ⟨_, (by kernel_rfl : Tryz.prog.underlying 155 = some (.struct (Tryz.prog.fieldsOf 155))), fun w => by kernel_rfl⟩
theorem ag156 : aggOf? Tryz.prog 156 = some (true, 2) := by kernel_rfl
theorem ze156 : zeroOf? Tryz.prog 156 = some [Value.int IntKind.i64 (0), Value.int IntKind.i64 (0)] := by kernel_rfl
theorem fo156_0 : fieldOff? Tryz.prog 156 0 = some 0 := by kernel_rfl
theorem fo156_1 : fieldOff? Tryz.prog 156 1 = some 1 := by kernel_rfl
theorem pl156 : PlacesOK Tryz.prog 156 [(0, 1), (1, 1)] := ⟨_, (by kernel_rfl : Tryz.prog.underlying 156 = some (.struct (Tryz.prog.fieldsOf 156))), fun w => by kernel_rfl⟩
theorem ag157 : aggOf? Tryz.prog 157 = some (false, 1) := by kernel_rfl
theorem ze157 : zeroOf? Tryz.prog 157 = some [Value.nilFunc] := by kernel_rfl
theorem ag158 : aggOf? Tryz.prog 158 = some (false, 1) := by kernel_rfl
theorem el158 : elemOf? Tryz.prog 158 = some (164, 3) := by kernel_rfl
theorem ro158 : rowT? Tryz.prog 158 = some (164, 3, 6) := by kernel_rfl
theorem ze158 : zeroOf? Tryz.prog 158 = some [Value.slice none 0 0] := by kernel_rfl
theorem ag159 : aggOf? Tryz.prog 159 = some (false, 1) := by kernel_rfl
theorem el159 : elemOf? Tryz.prog 159 = some (167, 3) := by kernel_rfl
theorem ro159 : rowT? Tryz.prog 159 = some (167, 3, 12) := by kernel_rfl
theorem ze159 : zeroOf? Tryz.prog 159 = some [Value.slice none 0 0] := by kernel_rfl
theorem ag160 : aggOf? Tryz.prog 160 = some (true, 3) := by kernel_rfl
theorem ze160 : zeroOf? Tryz.prog 160 = some [Value.slice none 0 0, Value.slice none 0 0, Value.int IntKind.i64 (0)] := by kernel_rfl
theorem fo160_0 : fieldOff? Tryz.prog 160 0 = some 0 := by kernel_rfl
theorem fo160_1 : fieldOff? Tryz.prog 160 1 = some 1 := by kernel_rfl
theorem fo160_2 : fieldOff? Tryz.prog 160 2 = some 2 := by kernel_rfl
theorem pl160 : PlacesOK Tryz.prog 160 [(0, 1), (1, 1), (2, 1)] := ⟨_, (by kernel_rfl : Tryz.prog.underlying 160 = some (.struct (Tryz.prog.fieldsOf 160))), fun w => by kernel_rfl⟩
theorem ag161 : aggOf? Tryz.prog 161 = some (true, 3) := by kernel_rfl
theorem ze161 : zeroOf? Tryz.prog 161 = some [Value.slice none 0 0, Value.slice none 0 0, Value.int IntKind.i64 (0)] := by kernel_rfl
theorem fo161_0 : fieldOff? Tryz.prog 161 0 = some 0 := by kernel_rfl
theorem fo161_1 : fieldOff? Tryz.prog 161 1 = some 1 := by kernel_rfl
theorem fo161_2 : fieldOff? Tryz.prog 161 2 = some 2 := by kernel_rfl
theorem pl161 : PlacesOK Tryz.prog 161 [(0, 1), (1, 1), (2, 1)] := ⟨_, (by kernel_rfl : Tryz.prog.underlying 161 = some (.struct (Tryz.prog.fieldsOf 161))), fun w => by kernel_rfl⟩
theorem ag162 : aggOf? Tryz.prog 162 = some (false, 1) := by kernel_rfl
theorem un162 : unOK Tryz.prog 162 (UK.i IntKind.u16) := by show Tryz.prog.underlying 162 = some _; kernel_rfl
theorem ze162 : zeroOf? Tryz.prog 162 = some [Value.int IntKind.u16 (0)] := by kernel_rfl
theorem ag163 : aggOf? Tryz.prog 163 = some (true, 3) := by kernel_rfl
theorem ze163 : zeroOf? Tryz.prog 163 = some [Value.int IntKind.u16 (0), Value.int IntKind.u16 (0), Value.int IntKind.u16 (0)] := by kernel_rfl
theorem fo163_0 : fieldOff? Tryz.prog 163 0 = some 0 := by kernel_rfl
theorem fo163_1 : fieldOff? Tryz.prog 163 1 = some 1 := by kernel_rfl
theorem fo163_2 : fieldOff? Tryz.prog 163 2 = some 2 := by kernel_rfl
theorem pl163 : PlacesOK Tryz.prog 163 [(0, 1), (1, 1), (2, 1)] := ⟨_, (by kernel_rfl : Tryz.prog.underlying 163 = some (.struct (Tryz.prog.fieldsOf 163))), fun w => by kernel_rfl⟩
theorem ag164 : aggOf? Tryz.prog 164 = some (true, 3) := by kernel_rfl
theorem ze164 : zeroOf? Tryz.prog 164 = some [Value.int IntKind.u16 (0), Value.int IntKind.u16 (0), Value.int IntKind.u16 (0)] := by kernel_rfl
theorem fo164_0 : fieldOff? Tryz.prog 164 0 = some 0 := by kernel_rfl
theorem fo164_1 : fieldOff? Tryz.prog 164 1 = some 1 := by kernel_rfl
theorem fo164_2 : fieldOff? Tryz.prog 164 2 = some 2 := by kernel_rfl
theorem pl164 : PlacesOK Tryz.prog 164 [(0, 1), (1, 1), (2, 1)] := ⟨_, (by kernel_rfl : Tryz.prog.underlying 164 = some (.struct (Tryz.prog.fieldsOf 164))), fun w => by kernel_rfl⟩
theorem ag165 : aggOf? Tryz.prog 165 = some (false, 1) := by kernel_rfl
theorem ze165 : zeroOf? Tryz.prog 165 = some [Value.nilFunc] := by kernel_rfl
theorem ag166 : aggOf? Tryz.prog 166 = some (true, 3) := by kernel_rfl
theorem ze166 : zeroOf? Tryz.prog 166 = some [Value.int IntKind.u32 (0), Value.int IntKind.u32 (0), Value.int IntKind.u32 (0)] := by kernel_rfl
theorem fo166_0 : fieldOff? Tryz.prog 166 0 = some 0 := by kernel_rfl
theorem fo166_1 : fieldOff? Tryz.prog 166 1 = some 1 := by kernel_rfl
theorem fo166_2 : fieldOff? Tryz.prog 166 2 = some 2 := by kernel_rfl
theorem pl166 : PlacesOK Tryz.prog 166 [(0, 1), (1, 1), (2, 1)] := ⟨_, (by kernel_rfl : Tryz.prog.underlying 166 = some (.struct (Tryz.prog.fieldsOf 166))), fun w => by kernel_rfl⟩
theorem ag167 : aggOf? Tryz.prog 167 = some (true, 3) := by kernel_rfl
theorem ze167 : zeroOf? Tryz.prog 167 = some [Value.int IntKind.u32 (0), Value.int IntKind.u32 (0), Value.int IntKind.u32 (0)] := by kernel_rfl
theorem fo167_0 : fieldOff? Tryz.prog 167 0 = some 0 := by kernel_rfl
theorem fo167_1 : fieldOff? Tryz.prog 167 1 = some 1 := by kernel_rfl
theorem fo167_2 : fieldOff? Tryz.prog 167 2 = some 2 := by kernel_rfl
theorem pl167 : PlacesOK Tryz.prog 167 [(0, 1), (1, 1), (2, 1)] := ⟨_, (by kernel_rfl : Tryz.prog.underlying 167 = some (.struct (Tryz.prog.fieldsOf 167))), fun w => by kernel_rfl⟩
theorem ag168 : aggOf? Tryz.prog 168 = some (false, 1) := by kernel_rfl
theorem ze168 : zeroOf? Tryz.prog 168 = some [Value.nilFunc] := by kernel_rfl
theorem ag169 : aggOf? Tryz.prog 169 = some (true, 24) := by kernel_rfl
theorem ar169 : arrOf? Tryz.prog 169 = some (24, 1) := by kernel_rfl
theorem ze169 : zeroOf? Tryz.prog 169 = some [Value.int IntKind.u8 (0), Value.int IntKind.u8 (0), Value.int IntKind.u8 (0), Value.int IntKind.u8 (0), Value.int IntKind.u8 (0), Value.int IntKind.u8 (0), Value.int IntKind.u8 (0), Value.int IntKind.u8 (0), Value.int IntKind.u8 (0), Value.int IntKind.u8 (0), Value.int IntKind.u8 (0), Value.int IntKind.u8 (0), Value.int IntKind.u8 (0), Value.int IntKind.u8 (0), Value.int IntKind.u8 (0), Value.int IntKind.u8 (0), Value.int IntKind.u8 (0), Value.int IntKind.u8 (0), Value.int IntKind.u8 (0), Value.int IntKind.u8 (0), Value.int IntKind.u8 (0), Value.int IntKind.u8 (0), Value.int IntKind.u8 (0), Value.int IntKind.u8 (0)] := by kernel_rfl
theorem ag170 : aggOf? Tryz.prog 170 = some (false, 1) := by kernel_rfl
theorem ze170 : zeroOf? Tryz.prog 170 = some [Value.nilFunc] := by kernel_rfl
theorem ag171 : aggOf? Tryz.prog 171 = some (false, 1) := by kernel_rfl
theorem ze171 : zeroOf? Tryz.prog 171 = some [Value.nilFunc] := by kernel_rfl
theorem ag172 : aggOf? Tryz.prog 172 = some (false, 1) := by kernel_rfl
theorem ag173 : aggOf? Tryz.prog 173 = some (false, 1) := by kernel_rfl
theorem ze173 : zeroOf? Tryz.prog 173 = some [Value.nilFunc] := by kernel_rfl
theorem ag174 : aggOf? Tryz.prog 174 = some (true, 2) := by kernel_rfl
theorem ze174 : zeroOf? Tryz.prog 174 = some [Value.int IntKind.u8 (0), Value.int IntKind.u8 (0)] := by kernel_rfl
theorem fo174_0 : fieldOff? Tryz.prog 174 0 = some 0 := by kernel_rfl
theorem fo174_1 : fieldOff? Tryz.prog 174 1 = some 1 := by kernel_rfl
theorem pl174 : PlacesOK Tryz.prog 174 [(0, 1), (1, 1)] := ⟨_, (by kernel_rfl : Tryz.prog.underlying 174 = some (.struct (Tryz.prog.fieldsOf 174))), fun w => by kernel_rfl⟩
theorem ag175 : aggOf? Tryz.prog 175 = some (true, 2) := by kernel_rfl
theorem ze175 : zeroOf? Tryz.prog 175 = some [Value.int IntKind.u8 (0), Value.int IntKind.u8 (0)] := by kernel_rfl
theorem fo175_0 : fieldOff? Tryz.prog 175 0 = some 0 := by kernel_rfl
theorem fo175_1 : fieldOff? Tryz.prog 175 1 = some 1 := by kernel_rfl
theorem pl175 : PlacesOK Tryz.prog 175 [(0, 1), (1, 1)] := ⟨_, (by kernel_rfl : Tryz.prog.underlying 175 = some (.struct (Tryz.prog.fieldsOf 175))), fun w => by kernel_rfl⟩
theorem ag176 : aggOf? Tryz.prog 176 = some (true, 32) := by kernel_rfl
theorem ar176 : arrOf? Tryz.prog 176 = some (16, 2) := by kernel_rfl
theorem ze176 : zeroOf? Tryz.prog 176 = some [Value.int IntKind.u8 (0), Value.int IntKind.u8 (0), Value.int IntKind.u8 (0), Value.int IntKind.u8 (0), Value.int IntKind.u8 (0), Value.int IntKind.u8 (0), Value.int IntKind.u8 (0), Value.int IntKind.u8 (0), Value.int IntKind.u8 (0), Value.int IntKind.u8 (0), Value.int IntKind.u8 (0), Value.int IntKind.u8 (0), Value.int IntKind.u8 (0), Value.int IntKind.u8 (0), Value.int IntKind.u8 (0), Value.int IntKind.u8 (0), Value.int IntKind.u8 (0), Value.int IntKind.u8 (0), Value.int IntKind.u8 (0), Value.int IntKind.u8 (0), Value.int IntKind.u8 (0), Value.int IntKind.u8 (0), Value.int IntKind.u8 (0), Value.int IntKind.u8 (0), Value.int IntKind.u8 (0), Value.int IntKind.u8 (0), Value.int IntKind.u8 (0), Value.int IntKind.u8 (0), Value.int IntKind.u8 (0), Value.int IntKind.u8 (0), Value.int IntKind.u8 (0), Value.int IntKind.u8 (0)] := by kernel_rfl
theorem ag177 : aggOf? Tryz.prog 177 = some (false, 1) := by kernel_rfl
theorem ze177 : zeroOf? Tryz.prog 177 = some [Value.nilFunc] := by kernel_rfl
theorem ag178 : aggOf? Tryz.prog 178 = some (false, 1) := by kernel_rfl
theorem ze178 : zeroOf? Tryz.prog 178 = some [Value.nilFunc] := by kernel_rfl
theorem ag179 : aggOf? Tryz.prog 179 = some (false, 1) := by kernel_rfl
theorem ze179 : zeroOf? Tryz.prog 179 = some [Value.nilFunc] := by kernel_rfl
theorem ag180 : aggOf? Tryz.prog 180 = some (false, 1) := by kernel_rfl
theorem ze180 : zeroOf? Tryz.prog 180 = some [Value.nilFunc] := by kernel_rfl
theorem ag181 : aggOf? Tryz.prog 181 = some (false, 1) := by kernel_rfl
theorem ze181 : zeroOf? Tryz.prog 181 = some [Value.pointer none] := by kernel_rfl
theorem ag182 : aggOf? Tryz.prog 182 = some (false, 1) := by kernel_rfl
theorem ze182 : zeroOf? Tryz.prog 182 = some [Value.pointer none] := by kernel_rfl
theorem ag183 : aggOf? Tryz.prog 183 = some (false, 1) := by kernel_rfl
theorem ze183 : zeroOf? Tryz.prog 183 = some [Value.nilFunc] := by kernel_rfl
theorem ag184 : aggOf? Tryz.prog 184 = some (true, 20) := by kernel_rfl
theorem ar184 : arrOf? Tryz.prog 184 = some (20, 1) := by kernel_rfl
theorem ze184 : zeroOf? Tryz.prog 184 = some [Value.int IntKind.u64 (0), Value.int IntKind.u64 (0), Value.int IntKind.u64 (0), Value.int IntKind.u64 (0), Value.int IntKind.u64 (0), Value.int IntKind.u64 (0), Value.int IntKind.u64 (0), Value.int IntKind.u64 (0), Value.int IntKind.u64 (0), Value.int IntKind.u64 (0), Value.int IntKind.u64 (0), Value.int IntKind.u64 (0), Value.int IntKind.u64 (0), Value.int IntKind.u64 (0), Value.int IntKind.u64 (0), Value.int IntKind.u64 (0), Value.int IntKind.u64 (0), Value.int IntKind.u64 (0), Value.int IntKind.u64 (0), Value.int IntKind.u64 (0)] := by kernel_rfl
theorem ag185 : aggOf? Tryz.prog 185 = some (true, 65) := by kernel_rfl
theorem ar185 : arrOf? Tryz.prog 185 = some (65, 1) := by kernel_rfl
theorem ze185 : zeroOf? Tryz.prog 185 = some [Value.int IntKind.u8 (0), Value.int IntKind.u8 (0), Value.int IntKind.u8 (0), Value.int IntKind.u8 (0), Value.int IntKind.u8 (0), Value.int IntKind.u8 (0), Value.int IntKind.u8 (0), Value.int IntKind.u8 (0), Value.int IntKind.u8 (0), Value.int IntKind.u8 (0), Value.int IntKind.u8 (0), Value.int IntKind.u8 (0), Value.int IntKind.u8 (0), Value.int IntKind.u8 (0), Value.int IntKind.u8 (0), Value.int IntKind.u8 (0), Value.int IntKind.u8 (0), Value.int IntKind.u8 (0), Value.int IntKind.u8 (0), Value.int IntKind.u8 (0), Value.int IntKind.u8 (0), Value.int IntKind.u8 (0), Value.int IntKind.u8 (0), Value.int IntKind.u8 (0), Value.int IntKind.u8 (0), Value.int IntKind.u8 (0), Value.int IntKind.u8 (0), Value.int IntKind.u8 (0), Value.int IntKind.u8 (0), Value.int IntKind.u8 (0), Value.int IntKind.u8 (0), Value.int IntKind.u8 (0), Value.int IntKind.u8 (0), Value.int IntKind.u8 (0), Value.int IntKind.u8 (0), Value.int IntKind.u8 (0), Value.int IntKind.u8 (0), Value.int IntKind.u8 (0), Value.int IntKind.u8 (0), Value.int IntKind.u8 (0), Value.int IntKind.u8 (0), Value.int IntKind.u8 (0), Value.int IntKind.u8 (0), Value.int IntKind.u8 (0), Value.int IntKind.u8 (0), Value.int IntKind.u8 (0), Value.int IntKind.u8 (0), Value.int IntKind.u8 (0), Value.int IntKind.u8 (0), Value.int IntKind.u8 (0), Value.int IntKind.u8 (0), Value.int IntKind.u8 (0), Value.int IntKind.u8 (0), Value.int IntKind.u8 (0), Value.int IntKind.u8 (0), Value.int IntKind.u8 (0), Value.int IntKind.u8 (0), Value.int IntKind.u8 (0), Value.int IntKind.u8 (0), Value.int IntKind.u8 (0), Value.int IntKind.u8 (0), Value.int IntKind.u8 (0), Value.int IntKind.u8 (0), Value.int IntKind.u8 (0), Value.int IntKind.u8 (0)] := by kernel_rfl
theorem ag186 : aggOf? Tryz.prog 186 = some (false, 1) := by kernel_rfl
theorem ze186 : zeroOf? Tryz.prog 186 = some [Value.nilFunc] := by kernel_rfl
theorem ag187 : aggOf? Tryz.prog 187 = some (false, 1) := by kernel_rfl
theorem ag188 : aggOf? Tryz.prog 188 = some (false, 1) := by kernel_rfl
theorem ze188 : zeroOf? Tryz.prog 188 = some [Value.nilFunc] := by kernel_rfl
theorem ag189 : aggOf? Tryz.prog 189 = some (false, 1) := by kernel_rfl
theorem ze189 : zeroOf? Tryz.prog 189 = some [Value.nilFunc] := by kernel_rfl
theorem ag190 : aggOf? Tryz.prog 190 = some (false, 1) := by kernel_rfl
theorem un190 : unOK Tryz.prog 190 (UK.i IntKind.i64) := by show Tryz.prog.underlying 190 = some _; kernel_rfl
theorem ze190 : zeroOf? Tryz.prog 190 = some [Value.int IntKind.i64 (0)] := by kernel_rfl
theorem ag191 : aggOf? Tryz.prog 191 = some (false, 1) := by kernel_rfl
theorem ag192 : aggOf? Tryz.prog 192 = some (false, 1) := by kernel_rfl
theorem ze192 : zeroOf? Tryz.prog 192 = some [Value.nilFunc] := by kernel_rfl
theorem ag193 : aggOf? Tryz.prog 193 = some (false, 1) := by kernel_rfl
theorem ze193 : zeroOf? Tryz.prog 193 = some [Value.pointer none] := by kernel_rfl
theorem ag194 : aggOf? Tryz.prog 194 = some (false, 1) := by kernel_rfl
theorem ze194 : zeroOf? Tryz.prog 194 = some [Value.nilFunc] := by kernel_rfl
theorem ag195 : aggOf? Tryz.prog 195 = some (false, 1) := by kernel_rfl
theorem ze195 : zeroOf? Tryz.prog 195 = some [Value.nilFunc] := by kernel_rfl
theorem ag196 : aggOf? Tryz.prog 196 = some (false, 1) := by kernel_rfl
theorem ze196 : zeroOf? Tryz.prog 196 = some [Value.nilFunc] := by kernel_rfl
theorem ag197 : aggOf? Tryz.prog 197 = some (false, 1) := by kernel_rfl
theorem ze197 : zeroOf? Tryz.prog 197 = some [Value.nilFunc] := by kernel_rfl
theorem ag198 : aggOf? Tryz.prog 198 = some (true, 3) := by kernel_rfl
theorem ze198 : zeroOf? Tryz.prog 198 = some [Value.string { data := { toList := [] } }, Value.string { data := { toList := [] } }, Value.nilIface] := by kernel_rfl
theorem fo198_0 : fieldOff? Tryz.prog 198 0 = some 0 := by kernel_rfl
theorem fo198_1 : fieldOff? Tryz.prog 198 1 = some 1 := by kernel_rfl
theorem fo198_2 : fieldOff? Tryz.prog 198 2 = some 2 := by kernel_rfl
theorem pl198 : PlacesOK Tryz.prog 198 [(0, 1), (1, 1), (2, 1)] := ⟨_, (by kernel_rfl : Tryz.prog.underlying 198 = some (.struct (Tryz.prog.fieldsOf 198))), fun w => by kernel_rfl⟩
theorem ag199 : aggOf? Tryz.prog 199 = some (true, 3) := by kernel_rfl
theorem ze199 : zeroOf? Tryz.prog 199 = some [Value.string { data := { toList := [] } }, Value.string { data := { toList := [] } }, Value.nilIface] := by kernel_rfl
theorem fo199_0 : fieldOff? Tryz.prog 199 0 = some 0 := by kernel_rfl
theorem fo199_1 : fieldOff? Tryz.prog 199 1 = some 1 := by kernel_rfl
theorem fo199_2 : fieldOff? Tryz.prog 199 2 = some 2 := by kernel_rfl
theorem pl199 : PlacesOK Tryz.prog 199 [(0, 1), (1, 1), (2, 1)] := ⟨_, (by kernel_rfl : Tryz.prog.underlying 199 = some (.struct (Tryz.prog.fieldsOf 199))), fun w => by kernel_rfl⟩
theorem ag200 : aggOf? Tryz.prog 200 = some (false, 1) := by kernel_rfl
theorem ze200 : zeroOf? Tryz.prog 200 = some [Value.nilFunc] := by kernel_rfl
theorem ag201 : aggOf? Tryz.prog 201 = some (true, 32) := by kernel_rfl
theorem ar201 : arrOf? Tryz.prog 201 = some (32, 1) := by kernel_rfl
theorem ze201 : zeroOf? Tryz.prog 201 = some [Value.int IntKind.u8 (0), Value.int IntKind.u8 (0), Value.int IntKind.u8 (0), Value.int IntKind.u8 (0), Value.int IntKind.u8 (0), Value.int IntKind.u8 (0), Value.int IntKind.u8 (0), Value.int IntKind.u8 (0), Value.int IntKind.u8 (0), Value.int IntKind.u8 (0), Value.int IntKind.u8 (0), Value.int IntKind.u8 (0), Value.int IntKind.u8 (0), Value.int IntKind.u8 (0), Value.int IntKind.u8 (0), Value.int IntKind.u8 (0), Value.int IntKind.u8 (0), Value.int IntKind.u8 (0), Value.int IntKind.u8 (0), Value.int IntKind.u8 (0), Value.int IntKind.u8 (0), Value.int IntKind.u8 (0), Value.int IntKind.u8 (0), Value.int IntKind.u8 (0), Value.int IntKind.u8 (0), Value.int IntKind.u8 (0), Value.int IntKind.u8 (0), Value.int IntKind.u8 (0), Value.int IntKind.u8 (0), Value.int IntKind.u8 (0), Value.int IntKind.u8 (0), Value.int IntKind.u8 (0)] := by kernel_rfl
theorem ag202 : aggOf? Tryz.prog 202 = some (true, 64) := by kernel_rfl
theorem ar202 : arrOf? Tryz.prog 202 = some (64, 1) := by kernel_rfl
theorem ze202 : zeroOf? Tryz.prog 202 = some [Value.int IntKind.u8 (0), Value.int IntKind.u8 (0), Value.int IntKind.u8 (0), Value.int IntKind.u8 (0), Value.int IntKind.u8 (0), Value.int IntKind.u8 (0), Value.int IntKind.u8 (0), Value.int IntKind.u8 (0), Value.int IntKind.u8 (0), Value.int IntKind.u8 (0), Value.int IntKind.u8 (0), Value.int IntKind.u8 (0), Value.int IntKind.u8 (0), Value.int IntKind.u8 (0), Value.int IntKind.u8 (0), Value.int IntKind.u8 (0), Value.int IntKind.u8 (0), Value.int IntKind.u8 (0), Value.int IntKind.u8 (0), Value.int IntKind.u8 (0), Value.int IntKind.u8 (0), Value.int IntKind.u8 (0), Value.int IntKind.u8 (0), Value.int IntKind.u8 (0), Value.int IntKind.u8 (0), Value.int IntKind.u8 (0), Value.int IntKind.u8 (0), Value.int IntKind.u8 (0), Value.int IntKind.u8 (0), Value.int IntKind.u8 (0), Value.int IntKind.u8 (0), Value.int IntKind.u8 (0), Value.int IntKind.u8 (0), Value.int IntKind.u8 (0), Value.int IntKind.u8 (0), Value.int IntKind.u8 (0), Value.int IntKind.u8 (0), Value.int IntKind.u8 (0), Value.int IntKind.u8 (0), Value.int IntKind.u8 (0), Value.int IntKind.u8 (0), Value.int IntKind.u8 (0), Value.int IntKind.u8 (0), Value.int IntKind.u8 (0), Value.int IntKind.u8 (0), Value.int IntKind.u8 (0), Value.int IntKind.u8 (0), Value.int IntKind.u8 (0), Value.int IntKind.u8 (0), Value.int IntKind.u8 (0), Value.int IntKind.u8 (0), Value.int IntKind.u8 (0), Value.int IntKind.u8 (0), Value.int IntKind.u8 (0), Value.int IntKind.u8 (0), Value.int IntKind.u8 (0), Value.int IntKind.u8 (0), Value.int IntKind.u8 (0), Value.int IntKind.u8 (0), Value.int IntKind.u8 (0), Value.int IntKind.u8 (0), Value.int IntKind.u8 (0), Value.int IntKind.u8 (0), Value.int IntKind.u8 (0)] := by kernel_rfl
theorem ag203 : aggOf? Tryz.prog 203 = some (false, 1) := by kernel_rfl
theorem ze203 : zeroOf? Tryz.prog 203 = some [Value.pointer none] := by kernel_rfl
theorem ag204 : aggOf? Tryz.prog 204 = some (true, 1) := by kernel_rfl
theorem ze204 : zeroOf? Tryz.prog 204 = some [Value.string { data := { toList := [] } }] := by kernel_rfl
theorem fo204_0 : fieldOff? Tryz.prog 204 0 = some 0 := by kernel_rfl
theorem pl204 : PlacesOK Tryz.prog 204 [(0, 1)] := ⟨_, (by kernel_rfl : Tryz.prog.underlying 204 = some (.struct (Tryz.prog.fieldsOf 204))), fun w => by kernel_rfl⟩
theorem ag205 : aggOf? Tryz.prog 205 = some (true, 1) := by kernel_rfl
theorem ze205 : zeroOf? Tryz.prog 205 = some [Value.string { data := { toList := [] } }] := by kernel_rfl
theorem fo205_0 : fieldOff? Tryz.prog 205 0 = some 0 := by kernel_rfl
theorem pl205 : PlacesOK Tryz.prog 205 [(0, 1)] := ⟨_, (by kernel_rfl : Tryz.prog.underlying 205 = some (.struct (Tryz.prog.fieldsOf 205))), fun w => by kernel_rfl⟩
theorem ag206 : aggOf? Tryz.prog 206 = some (true, 4) := by kernel_rfl
theorem ze206 : zeroOf? Tryz.prog 206 = some [Value.pointer none, Value.pointer none, Value.pointer none, Value.string { data := { toList := [] } }] := by kernel_rfl
theorem fo206_0 : fieldOff? Tryz.prog 206 0 = some 0 := by kernel_rfl
theorem fo206_1 : fieldOff? Tryz.prog 206 1 = some 1 := by kernel_rfl
theorem fo206_2 : fieldOff? Tryz.prog 206 2 = some 2 := by kernel_rfl
theorem fo206_3 : fieldOff? Tryz.prog 206 3 = some 3 := by kernel_rfl
theorem pl206 : PlacesOK Tryz.prog 206 [(0, 1), (1, 1), (2, 1), (3, 1)] := ⟨_, (by kernel_rfl : Tryz.prog.underlying 206 = some (.struct (Tryz.prog.fieldsOf 206))), fun w => by kernel_rfl⟩
theorem ag207 : aggOf? Tryz.prog 207 = some (true, 4) := by kernel_rfl
theorem ze207 : zeroOf? Tryz.prog 207 = some [Value.pointer none, Value.pointer none, Value.pointer none, Value.string { data := { toList := [] } }] := by kernel_rfl
theorem fo207_0 : fieldOff? Tryz.prog 207 0 = some 0 := by kernel_rfl
theorem fo207_1 : fieldOff? Tryz.prog 207 1 = some 1 := by kernel_rfl
theorem fo207_2 : fieldOff? Tryz.prog 207 2 = some 2 := by kernel_rfl
theorem fo207_3 : fieldOff? Tryz.prog 207 3 = some 3 := by kernel_rfl
theorem pl207 : PlacesOK Tryz.prog 207 [(0, 1), (1, 1), (2, 1), (3, 1)] := ⟨_, (by kernel_rfl : Tryz.prog.underlying 207 = some (.struct (Tryz.prog.fieldsOf 207))), fun w => by kernel_rfl⟩
theorem ag208 : aggOf? Tryz.prog 208 = some (true, 0) := by kernel_rfl
theorem ar208 : arrOf? Tryz.prog 208 = some (0, 1) := by kernel_rfl
theorem ze208 : zeroOf? Tryz.prog 208 = some [] := by kernel_rfl
theorem ag209 : aggOf? Tryz.prog 209 = some (true, 0) := by kernel_rfl
theorem ze209 : zeroOf? Tryz.prog 209 = some [] := by kernel_rfl
theorem pl209 : PlacesOK Tryz.prog 209 [(0, 0)] := ⟨_, (by kernel_rfl : Tryz.prog.underlying 209 = some (.struct (Tryz.prog.fieldsOf 209))), fun w => by kernel_rfl⟩
theorem ag210 : aggOf? Tryz.prog 210 = some (true, 0) := by kernel_rfl
theorem ze210 : zeroOf? Tryz.prog 210 = some [] := by kernel_rfl
theorem pl210 : PlacesOK Tryz.prog 210 [(0, 0)] := ⟨_, (by kernel_rfl : Tryz.prog.underlying 210 = some (.struct (Tryz.prog.fieldsOf 210))), fun w => by kernel_rfl⟩
theorem ag211 : aggOf? Tryz.prog 211 = some (false, 1) := by kernel_rfl
theorem ze211 : zeroOf? Tryz.prog 211 = some [Value.nilFunc] := by kernel_rfl
theorem ag212 : aggOf? Tryz.prog 212 = some (false, 1) := by kernel_rfl
theorem un212 : unOK Tryz.prog 212 (UK.i IntKind.u8) := by show Tryz.prog.underlying 212 = some _; kernel_rfl
theorem ze212 : zeroOf? Tryz.prog 212 = some [Value.int IntKind.u8 (0)] := by kernel_rfl
theorem ag213 : aggOf? Tryz.prog 213 = some (false, 1) := by kernel_rfl
theorem un213 : unOK Tryz.prog 213 (UK.i IntKind.u8) := by show Tryz.prog.underlying 213 = some _; kernel_rfl
theorem ze213 : zeroOf? Tryz.prog 213 = some [Value.int IntKind.u8 (0)] := by kernel_rfl
theorem ag214 : aggOf? Tryz.prog 214 = some (false, 1) := by kernel_rfl
theorem ze214 : zeroOf? Tryz.prog 214 = some [Value.nilFunc] := by kernel_rfl
theorem ag215 : aggOf? Tryz.prog 215 = some (false, 1) := by kernel_rfl
theorem un215 : unOK Tryz.prog 215 (UK.i IntKind.i32) := by show Tryz.prog.underlying 215 = some _; kernel_rfl
theorem ze215 : zeroOf? Tryz.prog 215 = some [Value.int IntKind.i32 (0)] := by kernel_rfl
theorem ag216 : aggOf? Tryz.prog 216 = some (false, 1) := by kernel_rfl
theorem un216 : unOK Tryz.prog 216 (UK.i IntKind.i32) := by show Tryz.prog.underlying 216 = some _; kernel_rfl
theorem ze216 : zeroOf? Tryz.prog 216 = some [Value.int IntKind.i32 (0)] := by kernel_rfl
theorem ag217 : aggOf? Tryz.prog 217 = some (true, 11) := by kernel_rfl
theorem ze217 : zeroOf? Tryz.prog 217 = some [Value.int IntKind.u64 (0), Value.int IntKind.u64 (0), Value.int IntKind.u32 (0), Value.int IntKind.u8 (0), Value.int IntKind.u8 (0), Value.int IntKind.u8 (0), Value.int IntKind.u8 (0), Value.nilFunc, Value.pointer none, Value.int IntKind.i32 (0), Value.int IntKind.i32 (0)] := by kernel_rfl
theorem fo217_0 : fieldOff? Tryz.prog 217 0 = some 0 := by kernel_rfl
theorem fo217_1 : fieldOff? Tryz.prog 217 1 = some 1 := by kernel_rfl
theorem fo217_2 : fieldOff? Tryz.prog 217 2 = some 2 := by kernel_rfl
theorem fo217_3 : fieldOff? Tryz.prog 217 3 = some 3 := by kernel_rfl
theorem fo217_4 : fieldOff? Tryz.prog 217 4 = some 4 := by kernel_rfl
theorem fo217_5 : fieldOff? Tryz.prog 217 5 = some 5 := by kernel_rfl
theorem fo217_6 : fieldOff? Tryz.prog 217 6 = some 6 := by kernel_rfl
theorem fo217_7 : fieldOff? Tryz.prog 217 7 = some 7 := by kernel_rfl
theorem fo217_8 : fieldOff? Tryz.prog 217 8 = some 8 := by kernel_rfl
theorem fo217_9 : fieldOff? Tryz.prog 217 9 = some 9 := by kernel_rfl
theorem fo217_10 : fieldOff? Tryz.prog 217 10 = some 10 := by kernel_rfl
theorem pl217 : PlacesOK Tryz.prog 217 [(0, 1), (1, 1), (2, 1), (3, 1), (4, 1), (5, 1), (6, 1), (7, 1), (8, 1), (9, 1), (10, 1)] := ⟨_, (by kernel_rfl : Tryz.prog.underlying 217 = some (.struct (Tryz.prog.fieldsOf 217))), fun w => by kernel_rfl⟩
theorem ag218 : aggOf? Tryz.prog 218 = some (true, 11) := by kernel_rfl
theorem ze218 : zeroOf? Tryz.prog 218 = some [Value.int IntKind.u64 (0), Value.int IntKind.u64 (0), Value.int IntKind.u32 (0), Value.int IntKind.u8 (0), Value.int IntKind.u8 (0), Value.int IntKind.u8 (0), Value.int IntKind.u8 (0), Value.nilFunc, Value.pointer none, Value.int IntKind.i32 (0), Value.int IntKind.i32 (0)] := by kernel_rfl
theorem fo218_0 : fieldOff? Tryz.prog 218 0 = some 0 := by kernel_rfl
theorem fo218_1 : fieldOff? Tryz.prog 218 1 = some 1 := by kernel_rfl
theorem fo218_2 : fieldOff? Tryz.prog 218 2 = some 2 := by kernel_rfl
theorem fo218_3 : fieldOff? Tryz.prog 218 3 = some 3 := by kernel_rfl
theorem fo218_4 : fieldOff? Tryz.prog 218 4 = some 4 := by kernel_rfl
theorem fo218_5 : fieldOff? Tryz.prog 218 5 = some 5 := by kernel_rfl
theorem fo218_6 : fieldOff? Tryz.prog 218 6 = some 6 := by kernel_rfl
theorem fo218_7 : fieldOff? Tryz.prog 218 7 = some 7 := by kernel_rfl
theorem fo218_8 : fieldOff? Tryz.prog 218 8 = some 8 := by kernel_rfl
theorem fo218_9 : fieldOff? Tryz.prog 218 9 = some 9 := by kernel_rfl
theorem fo218_10 : fieldOff? Tryz.prog 218 10 = some 10 := by kernel_rfl
theorem pl218 : PlacesOK Tryz.prog 218 [(0, 1), (1, 1), (2, 1), (3, 1), (4, 1), (5, 1), (6, 1), (7, 1), (8, 1), (9, 1), (10, 1)] := ⟨_, (by kernel_rfl : Tryz.prog.underlying 218 = some (.struct (Tryz.prog.fieldsOf 218))), fun w => by kernel_rfl⟩
def fax : Fax := { el := [(22, 39, 5), (23, 55, 2), (24, 9, 1), (35, 5, 1), (36, 3, 1), (37, 41, 5), (102, 153, 1), (103, 4, 1), (138, 140, 2), (153, 156, 2), (158, 164, 3), (159, 167, 3)], ro := [(22, 39, 5, 72), (23, 55, 2, 16), (24, 9, 1, 16), (35, 5, 1, 1), (36, 3, 1, 8), (37, 41, 5, 40), (102, 153, 1, 24), (103, 4, 1, 1), (138, 140, 2, 16), (153, 156, 2, 16), (158, 164, 3, 6), (159, 167, 3, 12)], ag := [(0, false, 1), (1, false, 1), (2, false, 1), (3, false, 1), (4, false, 1), (5, false, 1), (6, false, 1), (7, true, 4), (8, true, 4), (9, false, 1), (10, false, 1), (11, false, 1), (12, false, 1), (13, true, 2), (14, true, 2), (15, false, 1), (16, false, 1), (17, false, 1), (18, true, 1), (19, true, 1), (20, false, 1), (21, false, 1), (22, false, 1), (23, false, 1), (24, false, 1), (25, true, 3), (26, true, 3), (27, false, 1), (28, false, 1), (29, false, 1), (30, false, 1), (31, false, 1), (32, false, 1), (33, false, 1), (34, false, 1), (35, false, 1), (36, false, 1), (37, false, 1), (38, true, 5), (39, true, 5), (40, true, 5), (41, true, 5), (42, false, 1), (43, false, 1), (44, false, 1), (45, false, 1), (46, true, 2), (47, true, 2), (48, false, 1), (49, false, 1), (50, false, 1), (51, false, 1), (52, false, 1), (53, false, 1), (54, true, 2), (55, true, 2), (56, false, 1), (57, false, 1), (58, false, 1), (59, false, 1), (60, false, 1), (61, false, 1), (62, true, 5), (63, true, 5), (64, false, 1), (65, false, 1), (66, false, 1), (67, false, 1), (68, false, 1), (69, false, 1), (70, false, 1), (71, false, 1), (72, false, 1), (73, false, 1), (74, false, 1), (75, false, 1), (76, false, 1), (77, false, 1), (78, false, 1), (79, false, 1), (80, false, 1), (81, false, 1), (82, false, 1), (83, false, 1), (84, false, 1), (85, false, 1), (86, false, 1), (87, false, 1), (88, false, 1), (89, false, 1), (90, false, 1), (91, false, 1), (92, false, 1), (93, false, 1), (94, false, 1), (95, false, 1), (96, false, 1), (97, false, 1), (98, false, 1), (99, true, 8), (100, true, 8), (101, false, 1), (102, false, 1), (103, false, 1), (104, false, 1), (105, false, 1), (106, true, 256), (107, false, 1), (108, false, 1), (109, false, 1), (110, false, 1), (111, false, 1), (112, false, 1), (113, false, 1), (114, false, 1), (115, false, 1), (116, true, 256), (117, true, 256), (118, false, 1), (119, false, 1), (120, false, 1), (121, false, 1), (122, false, 1), (123, false, 1), (124, false, 1), (125, false, 1), (126, false, 1), (127, false, 1), (128, false, 1), (129, false, 1), (130, false, 1), (131, false, 1), (132, false, 1), (133, false, 1), (134, true, 9), (135, true, 9), (136, false, 1), (137, false, 1), (138, false, 1), (139, true, 2), (140, true, 2), (141, false, 1), (142, false, 1), (143, false, 1), (144, false, 1), (145, false, 1), (146, false, 1), (147, false, 1), (148, false, 1), (149, false, 1), (150, false, 1), (151, true, 39), (152, false, 1), (153, false, 1), (154, false, 1), (155, true, 2), (156, true, 2), (157, false, 1), (158, false, 1), (159, false, 1), (160, true, 3), (161, true, 3), (162, false, 1), (163, true, 3), (164, true, 3), (165, false, 1), (166, true, 3), (167, true, 3), (168, false, 1), (169, true, 24), (170, false, 1), (171, false, 1), (172, false, 1), (173, false, 1), (174, true, 2), (175, true, 2), (176, true, 32), (177, false, 1), (178, false, 1), (179, false, 1), (180, false, 1), (181, false, 1), (182, false, 1), (183, false, 1), (184, true, 20), (185, true, 65), (186, false, 1), (187, false, 1), (188, false, 1), (189, false, 1), (190, false, 1), (191, false, 1), (192, false, 1), (193, false, 1), (194, false, 1), (195, false, 1), (196, false, 1), (197, false, 1), (198, true, 3), (199, true, 3), (200, false, 1), (201, true, 32), (202, true, 64), (203, false, 1), (204, true, 1), (205, true, 1), (206, true, 4), (207, true, 4), (208, true, 0), (209, true, 0), (210, true, 0), (211, false, 1), (212, false, 1), (213, false, 1), (214, false, 1), (215, false, 1), (216, false, 1), (217, true, 11), (218, true, 11)], fo := [(7, [(0, 0), (1, 1), (2, 2), (3, 3)]), (8, [(0, 0), (1, 1), (2, 2), (3, 3)]), (13, [(0, 0), (1, 1)]), (14, [(0, 0), (1, 1)]), (18, [(0, 0)]), (19, [(0, 0)]), (25, [(0, 0), (1, 1), (2, 2)]), (26, [(0, 0), (1, 1), (2, 2)]), (38, [(0, 0), (1, 1), (2, 2), (3, 3), (4, 4)]), (39, [(0, 0), (1, 1), (2, 2), (3, 3), (4, 4)]), (40, [(0, 0), (1, 1), (2, 2), (3, 3), (4, 4)]), (41, [(0, 0), (1, 1), (2, 2), (3, 3), (4, 4)]), (46, [(0, 0), (1, 1)]), (47, [(0, 0), (1, 1)]), (54, [(0, 0), (1, 1)]), (55, [(0, 0), (1, 1)]), (62, [(0, 0), (1, 3), (2, 4)]), (63, [(0, 0), (1, 3), (2, 4)]), (99, [(0, 0), (1, 3)]), (100, [(0, 0), (1, 3)]), (134, [(0, 0), (1, 5), (2, 6), (3, 7), (4, 8)]), (135, [(0, 0), (1, 5), (2, 6), (3, 7), (4, 8)]), (139, [(0, 0), (1, 1)]), (140, [(0, 0), (1, 1)]), (155, [(0, 0), (1, 1)]), (156, [(0, 0), (1, 1)]), (160, [(0, 0), (1, 1), (2, 2)]), (161, [(0, 0), (1, 1), (2, 2)]), (163, [(0, 0), (1, 1), (2, 2)]), (164, [(0, 0), (1, 1), (2, 2)]), (166, [(0, 0), (1, 1), (2, 2)]), (167, [(0, 0), (1, 1), (2, 2)]), (174, [(0, 0), (1, 1)]), (175, [(0, 0), (1, 1)]), (198, [(0, 0), (1, 1), (2, 2)]), (199, [(0, 0), (1, 1), (2, 2)]), (204, [(0, 0)]), (205, [(0, 0)]), (206, [(0, 0), (1, 1), (2, 2), (3, 3)]), (207, [(0, 0), (1, 1), (2, 2), (3, 3)]), (209, []), (210, []), (217, [(0, 0), (1, 1), (2, 2), (3, 3), (4, 4), (5, 5), (6, 6), (7, 7), (8, 8), (9, 9), (10, 10)]), (218, [(0, 0), (1, 1), (2, 2), (3, 3), (4, 4), (5, 5), (6, 6), (7, 7), (8, 8), (9, 9), (10, 10)])], un := [(2, .i .i64), (3, .i .i64), (4, .b), (5, .i .u8), (6, .i .u8), (9, .s), (10, .s), (11, .s), (12, .i .u64), (21, .i .i32), (28, .i .i64), (75, .i .u64), (141, .i .u32), (150, .i .u64), (162, .i .u16), (190, .i .i64), (212, .i .u8), (213, .i .u8), (215, .i .i32), (216, .i .i32)], ze := [(1, [Value.nilFunc], [.v (Value.nilFunc)]), (2, [Value.int IntKind.i64 (0)], [.v (Value.int IntKind.i64 (0))]), (3, [Value.int IntKind.i64 (0)], [.v (Value.int IntKind.i64 (0))]), (4, [Value.bool false], [.v (Value.bool false)]), (5, [Value.int IntKind.u8 (0)], [.v (Value.int IntKind.u8 (0))]), (6, [Value.int IntKind.u8 (0)], [.v (Value.int IntKind.u8 (0))]), (7, [Value.int IntKind.i64 (0), Value.int IntKind.i64 (0), Value.bool false, Value.int IntKind.u8 (0)], [.v (Value.int IntKind.i64 (0)), .v (Value.int IntKind.i64 (0)), .v (Value.bool false), .v (Value.int IntKind.u8 (0))]), (8, [Value.int IntKind.i64 (0), Value.int IntKind.i64 (0), Value.bool false, Value.int IntKind.u8 (0)], [.v (Value.int IntKind.i64 (0)), .v (Value.int IntKind.i64 (0)), .v (Value.bool false), .v (Value.int IntKind.u8 (0))]), (9, [Value.string { data := { toList := [] } }], [.v (Value.string { data := { toList := [] } })]), (10, [Value.string { data := { toList := [] } }], [.v (Value.string { data := { toList := [] } })]), (11, [Value.string { data := { toList := [] } }], [.v (Value.string { data := { toList := [] } })]), (12, [Value.int IntKind.u64 (0)], [.v (Value.int IntKind.u64 (0))]), (13, [Value.string { data := { toList := [] } }, Value.int IntKind.u64 (0)], [.v (Value.string { data := { toList := [] } }), .v (Value.int IntKind.u64 (0))]), (14, [Value.string { data := { toList := [] } }, Value.int IntKind.u64 (0)], [.v (Value.string { data := { toList := [] } }), .v (Value.int IntKind.u64 (0))]), (15, [Value.pointer none], [.v (Value.pointer none)]), (16, [Value.pointer none], [.v (Value.pointer none)]), (17, [Value.pointer none], [.v (Value.pointer none)]), (18, [Value.pointer none], [.v (Value.pointer none)]), (19, [Value.pointer none], [.v (Value.pointer none)]), (20, [Value.nilIface], [.v (Value.nilIface)]), (21, [Value.int IntKind.i32 (0)], [.v (Value.int IntKind.i32 (0))]), (22, [Value.slice none 0 0], [.sl 5 []]), (23, [Value.slice none 0 0], [.sl 2 []]), (24, [Value.slice none 0 0], [.sl 1 []]), (25, [Value.slice none 0 0, Value.slice none 0 0, Value.slice none 0 0], [.sl 5 [], .sl 2 [], .sl 1 []]), (26, [Value.slice none 0 0, Value.slice none 0 0, Value.slice none 0 0], [.sl 5 [], .sl 2 [], .sl 1 []]), (27, [Value.nilFunc], [.v (Value.nilFunc)]), (28, [Value.int IntKind.i64 (0)], [.v (Value.int IntKind.i64 (0))]), (30, [Value.nilFunc], [.v (Value.nilFunc)]), (32, [Value.nilFunc], [.v (Value.nilFunc)]), (33, [Value.nilFunc], [.v (Value.nilFunc)]), (34, [Value.nilFunc], [.v (Value.nilFunc)]), (35, [Value.slice none 0 0], [.sl 1 []]), (36, [Value.slice none 0 0], [.sl 1 []]), (37, [Value.slice none 0 0], [.sl 5 []]), (38, [Value.int IntKind.i64 (0), Value.int IntKind.i64 (0), Value.bool false, Value.slice none 0 0, Value.slice none 0 0], [.v (Value.int IntKind.i64 (0)), .v (Value.int IntKind.i64 (0)), .v (Value.bool false), .sl 1 [], .sl 5 []]), (39, [Value.int IntKind.i64 (0), Value.int IntKind.i64 (0), Value.bool false, Value.slice none 0 0, Value.slice none 0 0], [.v (Value.int IntKind.i64 (0)), .v (Value.int IntKind.i64 (0)), .v (Value.bool false), .sl 1 [], .sl 5 []]), (40, [Value.int IntKind.i64 (0), Value.int IntKind.i64 (0), Value.int IntKind.i64 (0), Value.int IntKind.i64 (0), Value.int IntKind.i64 (0)], [.v (Value.int IntKind.i64 (0)), .v (Value.int IntKind.i64 (0)), .v (Value.int IntKind.i64 (0)), .v (Value.int IntKind.i64 (0)), .v (Value.int IntKind.i64 (0))]), (41, [Value.int IntKind.i64 (0), Value.int IntKind.i64 (0), Value.int IntKind.i64 (0), Value.int IntKind.i64 (0), Value.int IntKind.i64 (0)], [.v (Value.int IntKind.i64 (0)), .v (Value.int IntKind.i64 (0)), .v (Value.int IntKind.i64 (0)), .v (Value.int IntKind.i64 (0)), .v (Value.int IntKind.i64 (0))]), (42, [Value.nilFunc], [.v (Value.nilFunc)]), (43, [Value.nilFunc], [.v (Value.nilFunc)]), (44, [Value.nilFunc], [.v (Value.nilFunc)]), (45, [Value.pointer none], [.v (Value.pointer none)]), (46, [Value.pointer none, Value.slice none 0 0], [.v (Value.pointer none), .sl 1 []]), (47, [Value.pointer none, Value.slice none 0 0], [.v (Value.pointer none), .sl 1 []]), (48, [Value.nilFunc], [.v (Value.nilFunc)]), (49, [Value.nilIface], [.v (Value.nilIface)]), (50, [Value.nilIface], [.v (Value.nilIface)]), (52, [Value.nilFunc], [.v (Value.nilFunc)]), (53, [Value.nilFunc], [.v (Value.nilFunc)]), (54, [Value.int IntKind.i64 (0), Value.int IntKind.i64 (0)], [.v (Value.int IntKind.i64 (0)), .v (Value.int IntKind.i64 (0))]), (55, [Value.int IntKind.i64 (0), Value.int IntKind.i64 (0)], [.v (Value.int IntKind.i64 (0)), .v (Value.int IntKind.i64 (0))]), (56, [Value.nilFunc], [.v (Value.nilFunc)]), (57, [Value.nilFunc], [.v (Value.nilFunc)]), (58, [Value.nilFunc], [.v (Value.nilFunc)]), (59, [Value.pointer none], [.v (Value.pointer none)]), (60, [Value.nilFunc], [.v (Value.nilFunc)]), (61, [Value.map none], [.v (Value.map none)]), (62, [Value.slice none 0 0, Value.slice none 0 0, Value.slice none 0 0, Value.map none, Value.bool false], [.sl 5 [], .sl 2 [], .sl 1 [], .v (Value.map none), .v (Value.bool false)]), (63, [Value.slice none 0 0, Value.slice none 0 0, Value.slice none 0 0, Value.map none, Value.bool false], [.sl 5 [], .sl 2 [], .sl 1 [], .v (Value.map none), .v (Value.bool false)]), (64, [Value.nilFunc], [.v (Value.nilFunc)]), (65, [Value.nilFunc], [.v (Value.nilFunc)]), (66, [Value.nilFunc], [.v (Value.nilFunc)]), (67, [Value.nilFunc], [.v (Value.nilFunc)]), (68, [Value.nilFunc], [.v (Value.nilFunc)]), (69, [Value.nilFunc], [.v (Value.nilFunc)]), (70, [Value.nilFunc], [.v (Value.nilFunc)]), (71, [Value.nilFunc], [.v (Value.nilFunc)]), (72, [Value.nilFunc], [.v (Value.nilFunc)]), (73, [Value.nilFunc], [.v (Value.nilFunc)]), (74, [Value.nilFunc], [.v (Value.nilFunc)]), (75, [Value.int IntKind.u64 (0)], [.v (Value.int IntKind.u64 (0))]), (76, [Value.nilFunc], [.v (Value.nilFunc)]), (77, [Value.nilFunc], [.v (Value.nilFunc)]), (78, [Value.nilFunc], [.v (Value.nilFunc)]), (79, [Value.nilFunc], [.v (Value.nilFunc)]), (80, [Value.pointer none], [.v (Value.pointer none)]), (81, [Value.nilFunc], [.v (Value.nilFunc)]), (82, [Value.nilFunc], [.v (Value.nilFunc)]), (84, [Value.nilFunc], [.v (Value.nilFunc)]), (85, [Value.nilFunc], [.v (Value.nilFunc)]), (87, [Value.nilFunc], [.v (Value.nilFunc)]), (88, [Value.nilFunc], [.v (Value.nilFunc)]), (90, [Value.pointer none], [.v (Value.pointer none)]), (91, [Value.nilFunc], [.v (Value.nilFunc)]), (92, [Value.nilFunc], [.v (Value.nilFunc)]), (93, [Value.nilFunc], [.v (Value.nilFunc)]), (94, [Value.nilFunc], [.v (Value.nilFunc)]), (95, [Value.nilFunc], [.v (Value.nilFunc)]), (96, [Value.nilFunc], [.v (Value.nilFunc)]), (97, [Value.nilFunc], [.v (Value.nilFunc)]), (98, [Value.nilFunc], [.v (Value.nilFunc)]), (99, [Value.slice none 0 0, Value.slice none 0 0, Value.slice none 0 0, Value.int IntKind.i64 (0), Value.int IntKind.i64 (0), Value.bool false, Value.slice none 0 0, Value.slice none 0 0], [.sl 5 [], .sl 2 [], .sl 1 [], .v (Value.int IntKind.i64 (0)), .v (Value.int IntKind.i64 (0)), .v (Value.bool false), .sl 1 [], .sl 5 []]), (100, [Value.slice none 0 0, Value.slice none 0 0, Value.slice none 0 0, Value.int IntKind.i64 (0), Value.int IntKind.i64 (0), Value.bool false, Value.slice none 0 0, Value.slice none 0 0], [.sl 5 [], .sl 2 [], .sl 1 [], .v (Value.int IntKind.i64 (0)), .v (Value.int IntKind.i64 (0)), .v (Value.bool false), .sl 1 [], .sl 5 []]), (101, [Value.nilFunc], [.v (Value.nilFunc)]), (102, [Value.slice none 0 0], [.sl 1 []]), (103, [Value.slice none 0 0], [.sl 1 []]), (105, [Value.nilFunc], [.v (Value.nilFunc)]), (107, [Value.nilFunc], [.v (Value.nilFunc)]), (108, [Value.nilFunc], [.v (Value.nilFunc)]), (109, [Value.pointer none], [.v (Value.pointer none)]), (110, [Value.nilFunc], [.v (Value.nilFunc)]), (111, [Value.nilFunc], [.v (Value.nilFunc)]), (113, [Value.nilFunc], [.v (Value.nilFunc)]), (114, [Value.nilFunc], [.v (Value.nilFunc)]), (115, [Value.nilFunc], [.v (Value.nilFunc)]), (119, [Value.nilFunc], [.v (Value.nilFunc)]), (120, [Value.nilFunc], [.v (Value.nilFunc)]), (121, [Value.pointer none], [.v (Value.pointer none)]), (122, [Value.nilFunc], [.v (Value.nilFunc)]), (124, [Value.nilFunc], [.v (Value.nilFunc)]), (125, [Value.nilFunc], [.v (Value.nilFunc)]), (126, [Value.nilFunc], [.v (Value.nilFunc)]), (127, [Value.nilFunc], [.v (Value.nilFunc)]), (128, [Value.nilFunc], [.v (Value.nilFunc)]), (129, [Value.float FloatKind.f64 0], [.v (Value.float FloatKind.f64 0)]), (130, [Value.nilFunc], [.v (Value.nilFunc)]), (131, [Value.nilFunc], [.v (Value.nilFunc)]), (132, [Value.nilFunc], [.v (Value.nilFunc)]), (133, [Value.pointer none], [.v (Value.pointer none)]), (134, [Value.int IntKind.i64 (0), Value.int IntKind.i64 (0), Value.bool false, Value.slice none 0 0, Value.slice none 0 0, Value.slice none 0 0, Value.slice none 0 0, Value.slice none 0 0, Value.bool false], [.v (Value.int IntKind.i64 (0)), .v (Value.int IntKind.i64 (0)), .v (Value.bool false), .sl 1 [], .sl 5 [], .sl 1 [], .sl 1 [], .sl 1 [], .v (Value.bool false)]), (135, [Value.int IntKind.i64 (0), Value.int IntKind.i64 (0), Value.bool false, Value.slice none 0 0, Value.slice none 0 0, Value.slice none 0 0, Value.slice none 0 0, Value.slice none 0 0, Value.bool false], [.v (Value.int IntKind.i64 (0)), .v (Value.int IntKind.i64 (0)), .v (Value.bool false), .sl 1 [], .sl 5 [], .sl 1 [], .sl 1 [], .sl 1 [], .v (Value.bool false)]), (136, [Value.nilFunc], [.v (Value.nilFunc)]), (137, [Value.nilFunc], [.v (Value.nilFunc)]), (138, [Value.slice none 0 0], [.sl 2 []]), (139, [Value.int IntKind.i64 (0), Value.int IntKind.i64 (0)], [.v (Value.int IntKind.i64 (0)), .v (Value.int IntKind.i64 (0))]), (140, [Value.int IntKind.i64 (0), Value.int IntKind.i64 (0)], [.v (Value.int IntKind.i64 (0)), .v (Value.int IntKind.i64 (0))]), (141, [Value.int IntKind.u32 (0)], [.v (Value.int IntKind.u32 (0))]), (142, [Value.nilFunc], [.v (Value.nilFunc)]), (143, [Value.pointer none], [.v (Value.pointer none)]), (144, [Value.nilFunc], [.v (Value.nilFunc)]), (145, [Value.nilFunc], [.v (Value.nilFunc)]), (146, [Value.nilFunc], [.v (Value.nilFunc)]), (148, [Value.nilFunc], [.v (Value.nilFunc)]), (149, [Value.nilFunc], [.v (Value.nilFunc)]), (150, [Value.int IntKind.u64 (0)], [.v (Value.int IntKind.u64 (0))]), (151, [Value.string { data := { toList := [] } }, Value.string { data := { toList := [] } }, Value.string { data := { toList := [] } }, Value.string { data := { toList := [] } }, Value.string { data := { toList := [] } }, Value.string { data := { toList := [] } }, Value.string { data := { toList := [] } }, Value.string { data := { toList := [] } }, Value.string { data := { toList := [] } }, Value.string { data := { toList := [] } }, Value.string { data := { toList := [] } }, Value.string { data := { toList := [] } }, Value.string { data := { toList := [] } }, Value.string { data := { toList := [] } }, Value.string { data := { toList := [] } }, Value.string { data := { toList := [] } }, Value.string { data := { toList := [] } }, Value.string { data := { toList := [] } }, Value.string { data := { toList := [] } }, Value.string { data := { toList := [] } }, Value.string { data := { toList := [] } }, Value.string { data := { toList := [] } }, Value.string { data := { toList := [] } }, Value.string { data := { toList := [] } }, Value.string { data := { toList := [] } }, Value.string { data := { toList := [] } }, Value.string { data := { toList := [] } }, Value.string { data := { toList := [] } }, Value.string { data := { toList := [] } }, Value.string { data := { toList := [] } }, Value.string { data := { toList := [] } }, Value.string { data := { toList := [] } }, Value.string { data := { toList := [] } }, Value.string { data := { toList := [] } }, Value.string { data := { toList := [] } }, Value.string { data := { toList := [] } }, Value.string { data := { toList := [] } }, Value.string { data := { toList := [] } }, Value.string { data := { toList := [] } }], [.v (Value.string { data := { toList := [] } }), .v (Value.string { data := { toList := [] } }), .v (Value.string { data := { toList := [] } }), .v (Value.string { data := { toList := [] } }), .v (Value.string { data := { toList := [] } }), .v (Value.string { data := { toList := [] } }), .v (Value.string { data := { toList := [] } }), .v (Value.string { data := { toList := [] } }), .v (Value.string { data := { toList := [] } }), .v (Value.string { data := { toList := [] } }), .v (Value.string { data := { toList := [] } }), .v (Value.string { data := { toList := [] } }), .v (Value.string { data := { toList := [] } }), .v (Value.string { data := { toList := [] } }), .v (Value.string { data := { toList := [] } }), .v (Value.string { data := { toList := [] } }), .v (Value.string { data := { toList := [] } }), .v (Value.string { data := { toList := [] } }), .v (Value.string { data := { toList := [] } }), .v (Value.string { data := { toList := [] } }), .v (Value.string { data := { toList := [] } }), .v (Value.string { data := { toList := [] } }), .v (Value.string { data := { toList := [] } }), .v (Value.string { data := { toList := [] } }), .v (Value.string { data := { toList := [] } }), .v (Value.string { data := { toList := [] } }), .v (Value.string { data := { toList := [] } }), .v (Value.string { data := { toList := [] } }), .v (Value.string { data := { toList := [] } }), .v (Value.string { data := { toList := [] } }), .v (Value.string { data := { toList := [] } }), .v (Value.string { data := { toList := [] } }), .v (Value.string { data := { toList := [] } }), .v (Value.string { data := { toList := [] } }), .v (Value.string { data := { toList := [] } }), .v (Value.string { data := { toList := [] } }), .v (Value.string { data := { toList := [] } }), .v (Value.string { data := { toList := [] } }), .v (Value.string { data := { toList := [] } })]), (152, [Value.nilFunc], [.v (Value.nilFunc)]), (153, [Value.slice none 0 0], [.sl 2 []]), (154, [Value.nilFunc], [.v (Value.nilFunc)]), (155, [Value.int IntKind.i64 (0), Value.int IntKind.i64 (0)], [.v (Value.int IntKind.i64 (0)), .v (Value.int IntKind.i64 (0))]), (156, [Value.int IntKind.i64 (0), Value.int IntKind.i64 (0)], [.v (Value.int IntKind.i64 (0)), .v (Value.int IntKind.i64 (0))]), (157, [Value.nilFunc], [.v (Value.nilFunc)]), (158, [Value.slice none 0 0], [.sl 3 []]), (159, [Value.slice none 0 0], [.sl 3 []]), (160, [Value.slice none 0 0, Value.slice none 0 0, Value.int IntKind.i64 (0)], [.sl 3 [], .sl 3 [], .v (Value.int IntKind.i64 (0))]), (161, [Value.slice none 0 0, Value.slice none 0 0, Value.int IntKind.i64 (0)], [.sl 3 [], .sl 3 [], .v (Value.int IntKind.i64 (0))]), (162, [Value.int IntKind.u16 (0)], [.v (Value.int IntKind.u16 (0))]), (163, [Value.int IntKind.u16 (0), Value.int IntKind.u16 (0), Value.int IntKind.u16 (0)], [.v (Value.int IntKind.u16 (0)), .v (Value.int IntKind.u16 (0)), .v (Value.int IntKind.u16 (0))]), (164, [Value.int IntKind.u16 (0), Value.int IntKind.u16 (0), Value.int IntKind.u16 (0)], [.v (Value.int IntKind.u16 (0)), .v (Value.int IntKind.u16 (0)), .v (Value.int IntKind.u16 (0))]), (165, [Value.nilFunc], [.v (Value.nilFunc)]), (166, [Value.int IntKind.u32 (0), Value.int IntKind.u32 (0), Value.int IntKind.u32 (0)], [.v (Value.int IntKind.u32 (0)), .v (Value.int IntKind.u32 (0)), .v (Value.int IntKind.u32 (0))]), (167, [Value.int IntKind.u32 (0), Value.int IntKind.u32 (0), Value.int IntKind.u32 (0)], [.v (Value.int IntKind.u32 (0)), .v (Value.int IntKind.u32 (0)), .v (Value.int IntKind.u32 (0))]), (168, [Value.nilFunc], [.v (Value.nilFunc)]), (169, [Value.int IntKind.u8 (0), Value.int IntKind.u8 (0), Value.int IntKind.u8 (0), Value.int IntKind.u8 (0), Value.int IntKind.u8 (0), Value.int IntKind.u8 (0), Value.int IntKind.u8 (0), Value.int IntKind.u8 (0), Value.int IntKind.u8 (0), Value.int IntKind.u8 (0), Value.int IntKind.u8 (0), Value.int IntKind.u8 (0), Value.int IntKind.u8 (0), Value.int IntKind.u8 (0), Value.int IntKind.u8 (0), Value.int IntKind.u8 (0), Value.int IntKind.u8 (0), Value.int IntKind.u8 (0), Value.int IntKind.u8 (0), Value.int IntKind.u8 (0), Value.int IntKind.u8 (0), Value.int IntKind.u8 (0), Value.int IntKind.u8 (0), Value.int IntKind.u8 (0)], [.v (Value.int IntKind.u8 (0)), .v (Value.int IntKind.u8 (0)), .v (Value.int IntKind.u8 (0)), .v (Value.int IntKind.u8 (0)), .v (Value.int IntKind.u8 (0)), .v (Value.int IntKind.u8 (0)), .v (Value.int IntKind.u8 (0)), .v (Value.int IntKind.u8 (0)), .v (Value.int IntKind.u8 (0)), .v (Value.int IntKind.u8 (0)), .v (Value.int IntKind.u8 (0)), .v (Value.int IntKind.u8 (0)), .v (Value.int IntKind.u8 (0)), .v (Value.int IntKind.u8 (0)), .v (Value.int IntKind.u8 (0)), .v (Value.int IntKind.u8 (0)), .v (Value.int IntKind.u8 (0)), .v (Value.int IntKind.u8 (0)), .v (Value.int IntKind.u8 (0)), .v (Value.int IntKind.u8 (0)), .v (Value.int IntKind.u8 (0)), .v (Value.int IntKind.u8 (0)), .v (Value.int IntKind.u8 (0)), .v (Value.int IntKind.u8 (0))]), (170, [Value.nilFunc], [.v (Value.nilFunc)]), (171, [Value.nilFunc], [.v (Value.nilFunc)]), (173, [Value.nilFunc], [.v (Value.nilFunc)]), (174, [Value.int IntKind.u8 (0), Value.int IntKind.u8 (0)], [.v (Value.int IntKind.u8 (0)), .v (Value.int IntKind.u8 (0))]), (175, [Value.int IntKind.u8 (0), Value.int IntKind.u8 (0)], [.v (Value.int IntKind.u8 (0)), .v (Value.int IntKind.u8 (0))]), (176, [Value.int IntKind.u8 (0), Value.int IntKind.u8 (0), Value.int IntKind.u8 (0), Value.int IntKind.u8 (0), Value.int IntKind.u8 (0), Value.int IntKind.u8 (0), Value.int IntKind.u8 (0), Value.int IntKind.u8 (0), Value.int IntKind.u8 (0), Value.int IntKind.u8 (0), Value.int IntKind.u8 (0), Value.int IntKind.u8 (0), Value.int IntKind.u8 (0), Value.int IntKind.u8 (0), Value.int IntKind.u8 (0), Value.int IntKind.u8 (0), Value.int IntKind.u8 (0), Value.int IntKind.u8 (0), Value.int IntKind.u8 (0), Value.int IntKind.u8 (0), Value.int IntKind.u8 (0), Value.int IntKind.u8 (0), Value.int IntKind.u8 (0), Value.int IntKind.u8 (0), Value.int IntKind.u8 (0), Value.int IntKind.u8 (0), Value.int IntKind.u8 (0), Value.int IntKind.u8 (0), Value.int IntKind.u8 (0), Value.int IntKind.u8 (0), Value.int IntKind.u8 (0), Value.int IntKind.u8 (0)], [.v (Value.int IntKind.u8 (0)), .v (Value.int IntKind.u8 (0)), .v (Value.int IntKind.u8 (0)), .v (Value.int IntKind.u8 (0)), .v (Value.int IntKind.u8 (0)), .v (Value.int IntKind.u8 (0)), .v (Value.int IntKind.u8 (0)), .v (Value.int IntKind.u8 (0)), .v (Value.int IntKind.u8 (0)), .v (Value.int IntKind.u8 (0)), .v (Value.int IntKind.u8 (0)), .v (Value.int IntKind.u8 (0)), .v (Value.int IntKind.u8 (0)), .v (Value.int IntKind.u8 (0)), .v (Value.int IntKind.u8 (0)), .v (Value.int IntKind.u8 (0)), .v (Value.int IntKind.u8 (0)), .v (Value.int IntKind.u8 (0)), .v (Value.int IntKind.u8 (0)), .v (Value.int IntKind.u8 (0)), .v (Value.int IntKind.u8 (0)), .v (Value.int IntKind.u8 (0)), .v (Value.int IntKind.u8 (0)), .v (Value.int IntKind.u8 (0)), .v (Value.int IntKind.u8 (0)), .v (Value.int IntKind.u8 (0)), .v (Value.int IntKind.u8 (0)), .v (Value.int IntKind.u8 (0)), .v (Value.int IntKind.u8 (0)), .v (Value.int IntKind.u8 (0)), .v (Value.int IntKind.u8 (0)), .v (Value.int IntKind.u8 (0))]), (177, [Value.nilFunc], [.v (Value.nilFunc)]), (178, [Value.nilFunc], [.v (Value.nilFunc)]), (179, [Value.nilFunc], [.v (Value.nilFunc)]), (180, [Value.nilFunc], [.v (Value.nilFunc)]), (181, [Value.pointer none], [.v (Value.pointer none)]), (182, [Value.pointer none], [.v (Value.pointer none)]), (183, [Value.nilFunc], [.v (Value.nilFunc)]), (184, [Value.int IntKind.u64 (0), Value.int IntKind.u64 (0), Value.int IntKind.u64 (0), Value.int IntKind.u64 (0), Value.int IntKind.u64 (0), Value.int IntKind.u64 (0), Value.int IntKind.u64 (0), Value.int IntKind.u64 (0), Value.int IntKind.u64 (0), Value.int IntKind.u64 (0), Value.int IntKind.u64 (0), Value.int IntKind.u64 (0), Value.int IntKind.u64 (0), Value.int IntKind.u64 (0), Value.int IntKind.u64 (0), Value.int IntKind.u64 (0), Value.int IntKind.u64 (0), Value.int IntKind.u64 (0), Value.int IntKind.u64 (0), Value.int IntKind.u64 (0)], [.v (Value.int IntKind.u64 (0)), .v (Value.int IntKind.u64 (0)), .v (Value.int IntKind.u64 (0)), .v (Value.int IntKind.u64 (0)), .v (Value.int IntKind.u64 (0)), .v (Value.int IntKind.u64 (0)), .v (Value.int IntKind.u64 (0)), .v (Value.int IntKind.u64 (0)), .v (Value.int IntKind.u64 (0)), .v (Value.int IntKind.u64 (0)), .v (Value.int IntKind.u64 (0)), .v (Value.int IntKind.u64 (0)), .v (Value.int IntKind.u64 (0)), .v (Value.int IntKind.u64 (0)), .v (Value.int IntKind.u64 (0)), .v (Value.int IntKind.u64 (0)), .v (Value.int IntKind.u64 (0)), .v (Value.int IntKind.u64 (0)), .v (Value.int IntKind.u64 (0)), .v (Value.int IntKind.u64 (0))]), (186, [Value.nilFunc], [.v (Value.nilFunc)]), (188, [Value.nilFunc], [.v (Value.nilFunc)]), (189, [Value.nilFunc], [.v (Value.nilFunc)]), (190, [Value.int IntKind.i64 (0)], [.v (Value.int IntKind.i64 (0))]), (192, [Value.nilFunc], [.v (Value.nilFunc)]), (193, [Value.pointer none], [.v (Value.pointer none)]), (194, [Value.nilFunc], [.v (Value.nilFunc)]), (195, [Value.nilFunc], [.v (Value.nilFunc)]), (196, [Value.nilFunc], [.v (Value.nilFunc)]), (197, [Value.nilFunc], [.v (Value.nilFunc)]), (198, [Value.string { data := { toList := [] } }, Value.string { data := { toList := [] } }, Value.nilIface], [.v (Value.string { data := { toList := [] } }), .v (Value.string { data := { toList := [] } }), .v (Value.nilIface)]), (199, [Value.string { data := { toList := [] } }, Value.string { data := { toList := [] } }, Value.nilIface], [.v (Value.string { data := { toList := [] } }), .v (Value.string { data := { toList := [] } }), .v (Value.nilIface)]), (200, [Value.nilFunc], [.v (Value.nilFunc)]), (201, [Value.int IntKind.u8 (0), Value.int IntKind.u8 (0), Value.int IntKind.u8 (0), Value.int IntKind.u8 (0), Value.int IntKind.u8 (0), Value.int IntKind.u8 (0), Value.int IntKind.u8 (0), Value.int IntKind.u8 (0), Value.int IntKind.u8 (0), Value.int IntKind.u8 (0), Value.int IntKind.u8 (0), Value.int IntKind.u8 (0), Value.int IntKind.u8 (0), Value.int IntKind.u8 (0), Value.int IntKind.u8 (0), Value.int IntKind.u8 (0), Value.int IntKind.u8 (0), Value.int IntKind.u8 (0), Value.int IntKind.u8 (0), Value.int IntKind.u8 (0), Value.int IntKind.u8 (0), Value.int IntKind.u8 (0), Value.int IntKind.u8 (0), Value.int IntKind.u8 (0), Value.int IntKind.u8 (0), Value.int IntKind.u8 (0), Value.int IntKind.u8 (0), Value.int IntKind.u8 (0), Value.int IntKind.u8 (0), Value.int IntKind.u8 (0), Value.int IntKind.u8 (0), Value.int IntKind.u8 (0)], [.v (Value.int IntKind.u8 (0)), .v (Value.int IntKind.u8 (0)), .v (Value.int IntKind.u8 (0)), .v (Value.int IntKind.u8 (0)), .v (Value.int IntKind.u8 (0)), .v (Value.int IntKind.u8 (0)), .v (Value.int IntKind.u8 (0)), .v (Value.int IntKind.u8 (0)), .v (Value.int IntKind.u8 (0)), .v (Value.int IntKind.u8 (0)), .v (Value.int IntKind.u8 (0)), .v (Value.int IntKind.u8 (0)), .v (Value.int IntKind.u8 (0)), .v (Value.int IntKind.u8 (0)), .v (Value.int IntKind.u8 (0)), .v (Value.int IntKind.u8 (0)), .v (Value.int IntKind.u8 (0)), .v (Value.int IntKind.u8 (0)), .v (Value.int IntKind.u8 (0)), .v (Value.int IntKind.u8 (0)), .v (Value.int IntKind.u8 (0)), .v (Value.int IntKind.u8 (0)), .v (Value.int IntKind.u8 (0)), .v (Value.int IntKind.u8 (0)), .v (Value.int IntKind.u8 (0)), .v (Value.int IntKind.u8 (0)), .v (Value.int IntKind.u8 (0)), .v (Value.int IntKind.u8 (0)), .v (Value.int IntKind.u8 (0)), .v (Value.int IntKind.u8 (0)), .v (Value.int IntKind.u8 (0)), .v (Value.int IntKind.u8 (0))]), (203, [Value.pointer none], [.v (Value.pointer none)]), (204, [Value.string { data := { toList := [] } }], [.v (Value.string { data := { toList := [] } })]), (205, [Value.string { data := { toList := [] } }], [.v (Value.string { data := { toList := [] } })]), (206, [Value.pointer none, Value.pointer none, Value.pointer none, Value.string { data := { toList := [] } }], [.v (Value.pointer none), .v (Value.pointer none), .v (Value.pointer none), .v (Value.string { data := { toList := [] } })]), (207, [Value.pointer none, Value.pointer none, Value.pointer none, Value.string { data := { toList := [] } }], [.v (Value.pointer none), .v (Value.pointer none), .v (Value.pointer none), .v (Value.string { data := { toList := [] } })]), (208, [], []), (209, [], []), (210, [], []), (211, [Value.nilFunc], [.v (Value.nilFunc)]), (212, [Value.int IntKind.u8 (0)], [.v (Value.int IntKind.u8 (0))]), (213, [Value.int IntKind.u8 (0)], [.v (Value.int IntKind.u8 (0))]), (214, [Value.nilFunc], [.v (Value.nilFunc)]), (215, [Value.int IntKind.i32 (0)], [.v (Value.int IntKind.i32 (0))]), (216, [Value.int IntKind.i32 (0)], [.v (Value.int IntKind.i32 (0))]), (217, [Value.int IntKind.u64 (0), Value.int IntKind.u64 (0), Value.int IntKind.u32 (0), Value.int IntKind.u8 (0), Value.int IntKind.u8 (0), Value.int IntKind.u8 (0), Value.int IntKind.u8 (0), Value.nilFunc, Value.pointer none, Value.int IntKind.i32 (0), Value.int IntKind.i32 (0)], [.v (Value.int IntKind.u64 (0)), .v (Value.int IntKind.u64 (0)), .v (Value.int IntKind.u32 (0)), .v (Value.int IntKind.u8 (0)), .v (Value.int IntKind.u8 (0)), .v (Value.int IntKind.u8 (0)), .v (Value.int IntKind.u8 (0)), .v (Value.nilFunc), .v (Value.pointer none), .v (Value.int IntKind.i32 (0)), .v (Value.int IntKind.i32 (0))]), (218, [Value.int IntKind.u64 (0), Value.int IntKind.u64 (0), Value.int IntKind.u32 (0), Value.int IntKind.u8 (0), Value.int IntKind.u8 (0), Value.int IntKind.u8 (0), Value.int IntKind.u8 (0), Value.nilFunc, Value.pointer none, Value.int IntKind.i32 (0), Value.int IntKind.i32 (0)], [.v (Value.int IntKind.u64 (0)), .v (Value.int IntKind.u64 (0)), .v (Value.int IntKind.u32 (0)), .v (Value.int IntKind.u8 (0)), .v (Value.int IntKind.u8 (0)), .v (Value.int IntKind.u8 (0)), .v (Value.int IntKind.u8 (0)), .v (Value.nilFunc), .v (Value.pointer none), .v (Value.int IntKind.i32 (0)), .v (Value.int IntKind.i32 (0))])], pl := [(7, [(0, 1), (1, 1), (2, 1), (3, 1)]), (8, [(0, 1), (1, 1), (2, 1), (3, 1)]), (13, [(0, 1), (1, 1)]), (14, [(0, 1), (1, 1)]), (18, [(0, 1)]), (19, [(0, 1)]), (25, [(0, 1), (1, 1), (2, 1)]), (26, [(0, 1), (1, 1), (2, 1)]), (38, [(0, 1), (1, 1), (2, 1), (3, 1), (4, 1)]), (39, [(0, 1), (1, 1), (2, 1), (3, 1), (4, 1)]), (40, [(0, 1), (1, 1), (2, 1), (3, 1), (4, 1)]), (41, [(0, 1), (1, 1), (2, 1), (3, 1), (4, 1)]), (46, [(0, 1), (1, 1)]), (47, [(0, 1), (1, 1)]), (54, [(0, 1), (1, 1)]), (55, [(0, 1), (1, 1)]), (62, [(0, 3), (3, 1), (4, 1)]), (63, [(0, 3), (3, 1), (4, 1)]), (99, [(0, 3), (3, 5)]), (100, [(0, 3), (3, 5)]), (134, [(0, 5), (5, 1), (6, 1), (7, 1), (8, 1)]), (135, [(0, 5), (5, 1), (6, 1), (7, 1), (8, 1)]), (139, [(0, 1), (1, 1)]), (140, [(0, 1), (1, 1)]), (155, [(0, 1), (1, 1)]), (156, [(0, 1), (1, 1)]), (160, [(0, 1), (1, 1), (2, 1)]), (161, [(0, 1), (1, 1), (2, 1)]), (163, [(0, 1), (1, 1), (2, 1)]), (164, [(0, 1), (1, 1), (2, 1)]), (166, [(0, 1), (1, 1), (2, 1)]), (167, [(0, 1), (1, 1), (2, 1)]), (174, [(0, 1), (1, 1)]), (175, [(0, 1), (1, 1)]), (198, [(0, 1), (1, 1), (2, 1)]), (199, [(0, 1), (1, 1), (2, 1)]), (204, [(0, 1)]), (205, [(0, 1)]), (206, [(0, 1), (1, 1), (2, 1), (3, 1)]), (207, [(0, 1), (1, 1), (2, 1), (3, 1)]), (209, [(0, 0)]), (210, [(0, 0)]), (217, [(0, 1), (1, 1), (2, 1), (3, 1), (4, 1), (5, 1), (6, 1), (7, 1), (8, 1), (9, 1), (10, 1)]), (218, [(0, 1), (1, 1), (2, 1), (3, 1), (4, 1), (5, 1), (6, 1), (7, 1), (8, 1), (9, 1), (10, 1)])], ar := [(106, 256, 1), (116, 256, 1), (117, 256, 1), (151, 39, 1), (169, 24, 1), (176, 16, 2), (184, 20, 1), (185, 65, 1), (201, 32, 1), (202, 64, 1), (208, 0, 1)], mks := [(24, 9, Value.string { data := { toList := [] } }), (35, 5, Value.int IntKind.u8 (0)), (36, 3, Value.int IntKind.i64 (0)), (102, 153, Value.slice none 0 0), (103, 4, Value.bool false)], mt := [(61, 9, TypeDesc.string, 3, Value.int IntKind.i64 (0))] }
theorem fax_ok : FaxOK Tryz.prog fax := FaxOK.mk' ⟨el22, el23, el24, el35, el36, el37, el102, el103, el138, el153, el158, el159, trivial⟩ ⟨ro22, ro23, ro24, ro35, ro36, ro37, ro102, ro103, ro138, ro153, ro158, ro159, trivial⟩ ⟨ag0, ag1, ag2, ag3, ag4, ag5, ag6, ag7, ag8, ag9, ag10, ag11, ag12, ag13, ag14, ag15, ag16, ag17, ag18, ag19, ag20, ag21, ag22, ag23, ag24, ag25, ag26, ag27, ag28, ag29, ag30, ag31, ag32, ag33, ag34, ag35, ag36, ag37, ag38, ag39, ag40, ag41, ag42, ag43, ag44, ag45, ag46, ag47, ag48, ag49, ag50, ag51, ag52, ag53, ag54, ag55, ag56, ag57, ag58, ag59, ag60, ag61, ag62, ag63, ag64, ag65, ag66, ag67, ag68, ag69, ag70, ag71, ag72, ag73, ag74, ag75, ag76, ag77, ag78, ag79, ag80, ag81, ag82, ag83, ag84, ag85, ag86, ag87, ag88, ag89, ag90, ag91, ag92, ag93, ag94, ag95, ag96, ag97, ag98, ag99, ag100, ag101, ag102, ag103, ag104, ag105, ag106, ag107, ag108, ag109, ag110, ag111, ag112, ag113, ag114, ag115, ag116, ag117, ag118, ag119, ag120, ag121, ag122, ag123, ag124, ag125, ag126, ag127, ag128, ag129, ag130, ag131, ag132, ag133, ag134, ag135, ag136, ag137, ag138, ag139, ag140, ag141, ag142, ag143, ag144, ag145, ag146, ag147, ag148, ag149, ag150, ag151, ag152, ag153, ag154, ag155, ag156, ag157, ag158, ag159, ag160, ag161, ag162, ag163, ag164, ag165, ag166, ag167, ag168, ag169, ag170, ag171, ag172, ag173, ag174, ag175, ag176, ag177, ag178, ag179, ag180, ag181, ag182, ag183, ag184, ag185, ag186, ag187, ag188, ag189, ag190, ag191, ag192, ag193, ag194, ag195, ag196, ag197, ag198, ag199, ag200, ag201, ag202, ag203, ag204, ag205, ag206, ag207, ag208, ag209, ag210, ag211, ag212, ag213, ag214, ag215, ag216, ag217, ag218, trivial⟩ ⟨⟨fo7_0, fo7_1, fo7_2, fo7_3, trivial⟩, ⟨fo8_0, fo8_1, fo8_2, fo8_3, trivial⟩, ⟨fo13_0, fo13_1, trivial⟩, ⟨fo14_0, fo14_1, trivial⟩, ⟨fo18_0, trivial⟩, ⟨fo19_0, trivial⟩, ⟨fo25_0, fo25_1, fo25_2, trivial⟩, ⟨fo26_0, fo26_1, fo26_2, trivial⟩, ⟨fo38_0, fo38_1, fo38_2, fo38_3, fo38_4, trivial⟩, ⟨fo39_0, fo39_1, fo39_2, fo39_3, fo39_4, trivial⟩, ⟨fo40_0, fo40_1, fo40_2, fo40_3, fo40_4, trivial⟩, ⟨fo41_0, fo41_1, fo41_2, fo41_3, fo41_4, trivial⟩, ⟨fo46_0, fo46_1, trivial⟩, ⟨fo47_0, fo47_1, trivial⟩, ⟨fo54_0, fo54_1, trivial⟩, ⟨fo55_0, fo55_1, trivial⟩, ⟨fo62_0, fo62_1, fo62_2, trivial⟩, ⟨fo63_0, fo63_1, fo63_2, trivial⟩, ⟨fo99_0, fo99_1, trivial⟩, ⟨fo100_0, fo100_1, trivial⟩, ⟨fo134_0, fo134_1, fo134_2, fo134_3, fo134_4, trivial⟩, ⟨fo135_0, fo135_1, fo135_2, fo135_3, fo135_4, trivial⟩, ⟨fo139_0, fo139_1, trivial⟩, ⟨fo140_0, fo140_1, trivial⟩, ⟨fo155_0, fo155_1, trivial⟩, ⟨fo156_0, fo156_1, trivial⟩, ⟨fo160_0, fo160_1, fo160_2, trivial⟩, ⟨fo161_0, fo161_1, fo161_2, trivial⟩, ⟨fo163_0, fo163_1, fo163_2, trivial⟩, ⟨fo164_0, fo164_1, fo164_2, trivial⟩, ⟨fo166_0, fo166_1, fo166_2, trivial⟩, ⟨fo167_0, fo167_1, fo167_2, trivial⟩, ⟨fo174_0, fo174_1, trivial⟩, ⟨fo175_0, fo175_1, trivial⟩, ⟨fo198_0, fo198_1, fo198_2, trivial⟩, ⟨fo199_0, fo199_1, fo199_2, trivial⟩, ⟨fo204_0, trivial⟩, ⟨fo205_0, trivial⟩, ⟨fo206_0, fo206_1, fo206_2, fo206_3, trivial⟩, ⟨fo207_0, fo207_1, fo207_2, fo207_3, trivial⟩, trivial, trivial, ⟨fo217_0, fo217_1, fo217_2, fo217_3, fo217_4, fo217_5, fo217_6, fo217_7, fo217_8, fo217_9, fo217_10, trivial⟩, ⟨fo218_0, fo218_1, fo218_2, fo218_3, fo218_4, fo218_5, fo218_6, fo218_7, fo218_8, fo218_9, fo218_10, trivial⟩, trivial⟩ ⟨un2, un3, un4, un5, un6, un9, un10, un11, un12, un21, un28, un75, un141, un150, un162, un190, un212, un213, un215, un216, trivial⟩ ⟨⟨ze1, DLes.cons (DLe.refl _) (DLes.nil)⟩, ⟨ze2, DLes.cons (DLe.refl _) (DLes.nil)⟩, ⟨ze3, DLes.cons (DLe.refl _) (DLes.nil)⟩, ⟨ze4, DLes.cons (DLe.refl _) (DLes.nil)⟩, ⟨ze5, DLes.cons (DLe.refl _) (DLes.nil)⟩, ⟨ze6, DLes.cons (DLe.refl _) (DLes.nil)⟩, ⟨ze7, DLes.cons (DLe.refl _) (DLes.cons (DLe.refl _) (DLes.cons (DLe.refl _) (DLes.cons (DLe.refl _) (DLes.nil))))⟩, ⟨ze8, DLes.cons (DLe.refl _) (DLes.cons (DLe.refl _) (DLes.cons (DLe.refl _) (DLes.cons (DLe.refl _) (DLes.nil))))⟩, ⟨ze9, DLes.cons (DLe.refl _) (DLes.nil)⟩, ⟨ze10, DLes.cons (DLe.refl _) (DLes.nil)⟩, ⟨ze11, DLes.cons (DLe.refl _) (DLes.nil)⟩, ⟨ze12, DLes.cons (DLe.refl _) (DLes.nil)⟩, ⟨ze13, DLes.cons (DLe.refl _) (DLes.cons (DLe.refl _) (DLes.nil))⟩, ⟨ze14, DLes.cons (DLe.refl _) (DLes.cons (DLe.refl _) (DLes.nil))⟩, ⟨ze15, DLes.cons (DLe.refl _) (DLes.nil)⟩, ⟨ze16, DLes.cons (DLe.refl _) (DLes.nil)⟩, ⟨ze17, DLes.cons (DLe.refl _) (DLes.nil)⟩, ⟨ze18, DLes.cons (DLe.refl _) (DLes.nil)⟩, ⟨ze19, DLes.cons (DLe.refl _) (DLes.nil)⟩, ⟨ze20, DLes.cons (DLe.refl _) (DLes.nil)⟩, ⟨ze21, DLes.cons (DLe.refl _) (DLes.nil)⟩, ⟨ze22, DLes.cons DLe.nil (DLes.nil)⟩, ⟨ze23, DLes.cons DLe.nil (DLes.nil)⟩, ⟨ze24, DLes.cons DLe.nil (DLes.nil)⟩, ⟨ze25, DLes.cons DLe.nil (DLes.cons DLe.nil (DLes.cons DLe.nil (DLes.nil)))⟩, ⟨ze26, DLes.cons DLe.nil (DLes.cons DLe.nil (DLes.cons DLe.nil (DLes.nil)))⟩, ⟨ze27, DLes.cons (DLe.refl _) (DLes.nil)⟩, ⟨ze28, DLes.cons (DLe.refl _) (DLes.nil)⟩, ⟨ze30, DLes.cons (DLe.refl _) (DLes.nil)⟩, ⟨ze32, DLes.cons (DLe.refl _) (DLes.nil)⟩, ⟨ze33, DLes.cons (DLe.refl _) (DLes.nil)⟩, ⟨ze34, DLes.cons (DLe.refl _) (DLes.nil)⟩, ⟨ze35, DLes.cons DLe.nil (DLes.nil)⟩, ⟨ze36, DLes.cons DLe.nil (DLes.nil)⟩, ⟨ze37, DLes.cons DLe.nil (DLes.nil)⟩, ⟨ze38, DLes.cons (DLe.refl _) (DLes.cons (DLe.refl _) (DLes.cons (DLe.refl _) (DLes.cons DLe.nil (DLes.cons DLe.nil (DLes.nil)))))⟩, ⟨ze39, DLes.cons (DLe.refl _) (DLes.cons (DLe.refl _) (DLes.cons (DLe.refl _) (DLes.cons DLe.nil (DLes.cons DLe.nil (DLes.nil)))))⟩, ⟨ze40, DLes.cons (DLe.refl _) (DLes.cons (DLe.refl _) (DLes.cons (DLe.refl _) (DLes.cons (DLe.refl _) (DLes.cons (DLe.refl _) (DLes.nil)))))⟩, ⟨ze41, DLes.cons (DLe.refl _) (DLes.cons (DLe.refl _) (DLes.cons (DLe.refl _) (DLes.cons (DLe.refl _) (DLes.cons (DLe.refl _) (DLes.nil)))))⟩, ⟨ze42, DLes.cons (DLe.refl _) (DLes.nil)⟩, ⟨ze43, DLes.cons (DLe.refl _) (DLes.nil)⟩, ⟨ze44, DLes.cons (DLe.refl _) (DLes.nil)⟩, ⟨ze45, DLes.cons (DLe.refl _) (DLes.nil)⟩, ⟨ze46, DLes.cons (DLe.refl _) (DLes.cons DLe.nil (DLes.nil))⟩, ⟨ze47, DLes.cons (DLe.refl _) (DLes.cons DLe.nil (DLes.nil))⟩, ⟨ze48, DLes.cons (DLe.refl _) (DLes.nil)⟩, ⟨ze49, DLes.cons (DLe.refl _) (DLes.nil)⟩, ⟨ze50, DLes.cons (DLe.refl _) (DLes.nil)⟩, ⟨ze52, DLes.cons (DLe.refl _) (DLes.nil)⟩, ⟨ze53, DLes.cons (DLe.refl _) (DLes.nil)⟩, ⟨ze54, DLes.cons (DLe.refl _) (DLes.cons (DLe.refl _) (DLes.nil))⟩, ⟨ze55, DLes.cons (DLe.refl _) (DLes.cons (DLe.refl _) (DLes.nil))⟩, ⟨ze56, DLes.cons (DLe.refl _) (DLes.nil)⟩, ⟨ze57, DLes.cons (DLe.refl _) (DLes.nil)⟩, ⟨ze58, DLes.cons (DLe.refl _) (DLes.nil)⟩, ⟨ze59, DLes.cons (DLe.refl _) (DLes.nil)⟩, ⟨ze60, DLes.cons (DLe.refl _) (DLes.nil)⟩, ⟨ze61, DLes.cons (DLe.refl _) (DLes.nil)⟩, ⟨ze62, DLes.cons DLe.nil (DLes.cons DLe.nil (DLes.cons DLe.nil (DLes.cons (DLe.refl _) (DLes.cons (DLe.refl _) (DLes.nil)))))⟩, ⟨ze63, DLes.cons DLe.nil (DLes.cons DLe.nil (DLes.cons DLe.nil (DLes.cons (DLe.refl _) (DLes.cons (DLe.refl _) (DLes.nil)))))⟩, ⟨ze64, DLes.cons (DLe.refl _) (DLes.nil)⟩, ⟨ze65, DLes.cons (DLe.refl _) (DLes.nil)⟩, ⟨ze66, DLes.cons (DLe.refl _) (DLes.nil)⟩, ⟨ze67, DLes.cons (DLe.refl _) (DLes.nil)⟩, ⟨ze68, DLes.cons (DLe.refl _) (DLes.nil)⟩, ⟨ze69, DLes.cons (DLe.refl _) (DLes.nil)⟩, ⟨ze70, DLes.cons (DLe.refl _) (DLes.nil)⟩, ⟨ze71, DLes.cons (DLe.refl _) (DLes.nil)⟩, ⟨ze72, DLes.cons (DLe.refl _) (DLes.nil)⟩, ⟨ze73, DLes.cons (DLe.refl _) (DLes.nil)⟩, ⟨ze74, DLes.cons (DLe.refl _) (DLes.nil)⟩, ⟨ze75, DLes.cons (DLe.refl _) (DLes.nil)⟩, ⟨ze76, DLes.cons (DLe.refl _) (DLes.nil)⟩, ⟨ze77, DLes.cons (DLe.refl _) (DLes.nil)⟩, ⟨ze78, DLes.cons (DLe.refl _) (DLes.nil)⟩, ⟨ze79, DLes.cons (DLe.refl _) (DLes.nil)⟩, ⟨ze80, DLes.cons (DLe.refl _) (DLes.nil)⟩, ⟨ze81, DLes.cons (DLe.refl _) (DLes.nil)⟩, ⟨ze82, DLes.cons (DLe.refl _) (DLes.nil)⟩, ⟨ze84, DLes.cons (DLe.refl _) (DLes.nil)⟩, ⟨ze85, DLes.cons (DLe.refl _) (DLes.nil)⟩, ⟨ze87, DLes.cons (DLe.refl _) (DLes.nil)⟩, ⟨ze88, DLes.cons (DLe.refl _) (DLes.nil)⟩, ⟨ze90, DLes.cons (DLe.refl _) (DLes.nil)⟩, ⟨ze91, DLes.cons (DLe.refl _) (DLes.nil)⟩, ⟨ze92, DLes.cons (DLe.refl _) (DLes.nil)⟩, ⟨ze93, DLes.cons (DLe.refl _) (DLes.nil)⟩, ⟨ze94, DLes.cons (DLe.refl _) (DLes.nil)⟩, ⟨ze95, DLes.cons (DLe.refl _) (DLes.nil)⟩, ⟨ze96, DLes.cons (DLe.refl _) (DLes.nil)⟩, ⟨ze97, DLes.cons (DLe.refl _) (DLes.nil)⟩, ⟨ze98, DLes.cons (DLe.refl _) (DLes.nil)⟩, ⟨ze99, DLes.cons DLe.nil (DLes.cons DLe.nil (DLes.cons DLe.nil (DLes.cons (DLe.refl _) (DLes.cons (DLe.refl _) (DLes.cons (DLe.refl _) (DLes.cons DLe.nil (DLes.cons DLe.nil (DLes.nil))))))))⟩, ⟨ze100, DLes.cons DLe.nil (DLes.cons DLe.nil (DLes.cons DLe.nil (DLes.cons (DLe.refl _) (DLes.cons (DLe.refl _) (DLes.cons (DLe.refl _) (DLes.cons DLe.nil (DLes.cons DLe.nil (DLes.nil))))))))⟩, ⟨ze101, DLes.cons (DLe.refl _) (DLes.nil)⟩, ⟨ze102, DLes.cons DLe.nil (DLes.nil)⟩, ⟨ze103, DLes.cons DLe.nil (DLes.nil)⟩, ⟨ze105, DLes.cons (DLe.refl _) (DLes.nil)⟩, ⟨ze107, DLes.cons (DLe.refl _) (DLes.nil)⟩, ⟨ze108, DLes.cons (DLe.refl _) (DLes.nil)⟩, ⟨ze109, DLes.cons (DLe.refl _) (DLes.nil)⟩, ⟨ze110, DLes.cons (DLe.refl _) (DLes.nil)⟩, ⟨ze111, DLes.cons (DLe.refl _) (DLes.nil)⟩, ⟨ze113, DLes.cons (DLe.refl _) (DLes.nil)⟩, ⟨ze114, DLes.cons (DLe.refl _) (DLes.nil)⟩, ⟨ze115, DLes.cons (DLe.refl _) (DLes.nil)⟩, ⟨ze119, DLes.cons (DLe.refl _) (DLes.nil)⟩, ⟨ze120, DLes.cons (DLe.refl _) (DLes.nil)⟩, ⟨ze121, DLes.cons (DLe.refl _) (DLes.nil)⟩, ⟨ze122, DLes.cons (DLe.refl _) (DLes.nil)⟩, ⟨ze124, DLes.cons (DLe.refl _) (DLes.nil)⟩, ⟨ze125, DLes.cons (DLe.refl _) (DLes.nil)⟩, ⟨ze126, DLes.cons (DLe.refl _) (DLes.nil)⟩, ⟨ze127, DLes.cons (DLe.refl _) (DLes.nil)⟩, ⟨ze128, DLes.cons (DLe.refl _) (DLes.nil)⟩, ⟨ze129, DLes.cons (DLe.refl _) (DLes.nil)⟩, ⟨ze130, DLes.cons (DLe.refl _) (DLes.nil)⟩, ⟨ze131, DLes.cons (DLe.refl _) (DLes.nil)⟩, ⟨ze132, DLes.cons (DLe.refl _) (DLes.nil)⟩, ⟨ze133, DLes.cons (DLe.refl _) (DLes.nil)⟩, ⟨ze134, DLes.cons (DLe.refl _) (DLes.cons (DLe.refl _) (DLes.cons (DLe.refl _) (DLes.cons DLe.nil (DLes.cons DLe.nil (DLes.cons DLe.nil (DLes.cons DLe.nil (DLes.cons DLe.nil (DLes.cons (DLe.refl _) (DLes.nil)))))))))⟩, ⟨ze135, DLes.cons (DLe.refl _) (DLes.cons (DLe.refl _) (DLes.cons (DLe.refl _) (DLes.cons DLe.nil (DLes.cons DLe.nil (DLes.cons DLe.nil (DLes.cons DLe.nil (DLes.cons DLe.nil (DLes.cons (DLe.refl _) (DLes.nil)))))))))⟩, ⟨ze136, DLes.cons (DLe.refl _) (DLes.nil)⟩, ⟨ze137, DLes.cons (DLe.refl _) (DLes.nil)⟩, ⟨ze138, DLes.cons DLe.nil (DLes.nil)⟩, ⟨ze139, DLes.cons (DLe.refl _) (DLes.cons (DLe.refl _) (DLes.nil))⟩, ⟨ze140, DLes.cons (DLe.refl _) (DLes.cons (DLe.refl _) (DLes.nil))⟩, ⟨ze141, DLes.cons (DLe.refl _) (DLes.nil)⟩, ⟨ze142, DLes.cons (DLe.refl _) (DLes.nil)⟩, ⟨ze143, DLes.cons (DLe.refl _) (DLes.nil)⟩, ⟨ze144, DLes.cons (DLe.refl _) (DLes.nil)⟩, ⟨ze145, DLes.cons (DLe.refl _) (DLes.nil)⟩, ⟨ze146, DLes.cons (DLe.refl _) (DLes.nil)⟩, ⟨ze148, DLes.cons (DLe.refl _) (DLes.nil)⟩, ⟨ze149, DLes.cons (DLe.refl _) (DLes.nil)⟩, ⟨ze150, DLes.cons (DLe.refl _) (DLes.nil)⟩, ⟨ze151, DLes.cons (DLe.refl _) (DLes.cons (DLe.refl _) (DLes.cons (DLe.refl _) (DLes.cons (DLe.refl _) (DLes.cons (DLe.refl _) (DLes.cons (DLe.refl _) (DLes.cons (DLe.refl _) (DLes.cons (DLe.refl _) (DLes.cons (DLe.refl _) (DLes.cons (DLe.refl _) (DLes.cons (DLe.refl _) (DLes.cons (DLe.refl _) (DLes.cons (DLe.refl _) (DLes.cons (DLe.refl _) (DLes.cons (DLe.refl _) (DLes.cons (DLe.refl _) (DLes.cons (DLe.refl _) (DLes.cons (DLe.refl _) (DLes.cons (DLe.refl _) (DLes.cons (DLe.refl _) (DLes.cons (DLe.refl _) (DLes.cons (DLe.refl _) (DLes.cons (DLe.refl _) (DLes.cons (DLe.refl _) (DLes.cons (DLe.refl _) (DLes.cons (DLe.refl _) (DLes.cons (DLe.refl _) (DLes.cons (DLe.refl _) (DLes.cons (DLe.refl _) (DLes.cons (DLe.refl _) (DLes.cons (DLe.refl _) (DLes.cons (DLe.refl _) (DLes.cons (DLe.refl _) (DLes.cons (DLe.refl _) (DLes.cons (DLe.refl _) (DLes.cons (DLe.refl _) (DLes.cons (DLe.refl _) (DLes.cons (DLe.refl _) (DLes.cons (DLe.refl _) (DLes.nil)))))))))))))))))))))))))))))))))))))))⟩, ⟨ze152, DLes.cons (DLe.refl _) (DLes.nil)⟩, ⟨ze153, DLes.cons DLe.nil (DLes.nil)⟩, ⟨ze154, DLes.cons (DLe.refl _) (DLes.nil)⟩, ⟨ze155, DLes.cons (DLe.refl _) (DLes.cons (DLe.refl _) (DLes.nil))⟩, ⟨ze156, DLes.cons (DLe.refl _) (DLes.cons (DLe.refl _) (DLes.nil))⟩, ⟨ze157, DLes.cons (DLe.refl _) (DLes.nil)⟩, ⟨ze158, DLes.cons DLe.nil (DLes.nil)⟩, ⟨ze159, DLes.cons DLe.nil (DLes.nil)⟩, ⟨ze160, DLes.cons DLe.nil (DLes.cons DLe.nil (DLes.cons (DLe.refl _) (DLes.nil)))⟩, ⟨ze161, DLes.cons DLe.nil (DLes.cons DLe.nil (DLes.cons (DLe.refl _) (DLes.nil)))⟩, ⟨ze162, DLes.cons (DLe.refl _) (DLes.nil)⟩, ⟨ze163, DLes.cons (DLe.refl _) (DLes.cons (DLe.refl _) (DLes.cons (DLe.refl _) (DLes.nil)))⟩, ⟨ze164, DLes.cons (DLe.refl _) (DLes.cons (DLe.refl _) (DLes.cons (DLe.refl _) (DLes.nil)))⟩, ⟨ze165, DLes.cons (DLe.refl _) (DLes.nil)⟩, ⟨ze166, DLes.cons (DLe.refl _) (DLes.cons (DLe.refl _) (DLes.cons (DLe.refl _) (DLes.nil)))⟩, ⟨ze167, DLes.cons (DLe.refl _) (DLes.cons (DLe.refl _) (DLes.cons (DLe.refl _) (DLes.nil)))⟩, ⟨ze168, DLes.cons (DLe.refl _) (DLes.nil)⟩, ⟨ze169, DLes.cons (DLe.refl _) (DLes.cons (DLe.refl _) (DLes.cons (DLe.refl _) (DLes.cons (DLe.refl _) (DLes.cons (DLe.refl _) (DLes.cons (DLe.refl _) (DLes.cons (DLe.refl _) (DLes.cons (DLe.refl _) (DLes.cons (DLe.refl _) (DLes.cons (DLe.refl _) (DLes.cons (DLe.refl _) (DLes.cons (DLe.refl _) (DLes.cons (DLe.refl _) (DLes.cons (DLe.refl _) (DLes.cons (DLe.refl _) (DLes.cons (DLe.refl _) (DLes.cons (DLe.refl _) (DLes.cons (DLe.refl _) (DLes.cons (DLe.refl _) (DLes.cons (DLe.refl _) (DLes.cons (DLe.refl _) (DLes.cons (DLe.refl _) (DLes.cons (DLe.refl _) (DLes.cons (DLe.refl _) (DLes.nil))))))))))))))))))))))))⟩, ⟨ze170, DLes.cons (DLe.refl _) (DLes.nil)⟩, ⟨ze171, DLes.cons (DLe.refl _) (DLes.nil)⟩, ⟨ze173, DLes.cons (DLe.refl _) (DLes.nil)⟩, ⟨ze174, DLes.cons (DLe.refl _) (DLes.cons (DLe.refl _) (DLes.nil))⟩, ⟨ze175, DLes.cons (DLe.refl _) (DLes.cons (DLe.refl _) (DLes.nil))⟩, ⟨ze176, DLes.cons (DLe.refl _) (DLes.cons (DLe.refl _) (DLes.cons (DLe.refl _) (DLes.cons (DLe.refl _) (DLes.cons (DLe.refl _) (DLes.cons (DLe.refl _) (DLes.cons (DLe.refl _) (DLes.cons (DLe.refl _) (DLes.cons (DLe.refl _) (DLes.cons (DLe.refl _) (DLes.cons (DLe.refl _) (DLes.cons (DLe.refl _) (DLes.cons (DLe.refl _) (DLes.cons (DLe.refl _) (DLes.cons (DLe.refl _) (DLes.cons (DLe.refl _) (DLes.cons (DLe.refl _) (DLes.cons (DLe.refl _) (DLes.cons (DLe.refl _) (DLes.cons (DLe.refl _) (DLes.cons (DLe.refl _) (DLes.cons (DLe.refl _) (DLes.cons (DLe.refl _) (DLes.cons (DLe.refl _) (DLes.cons (DLe.refl _) (DLes.cons (DLe.refl _) (DLes.cons (DLe.refl _) (DLes.cons (DLe.refl _) (DLes.cons (DLe.refl _) (DLes.cons (DLe.refl _) (DLes.cons (DLe.refl _) (DLes.cons (DLe.refl _) (DLes.nil))))))))))))))))))))))))))))))))⟩, ⟨ze177, DLes.cons (DLe.refl _) (DLes.nil)⟩, ⟨ze178, DLes.cons (DLe.refl _) (DLes.nil)⟩, ⟨ze179, DLes.cons (DLe.refl _) (DLes.nil)⟩, ⟨ze180, DLes.cons (DLe.refl _) (DLes.nil)⟩, ⟨ze181, DLes.cons (DLe.refl _) (DLes.nil)⟩, ⟨ze182, DLes.cons (DLe.refl _) (DLes.nil)⟩, ⟨ze183, DLes.cons (DLe.refl _) (DLes.nil)⟩, ⟨ze184, DLes.cons (DLe.refl _) (DLes.cons (DLe.refl _) (DLes.cons (DLe.refl _) (DLes.cons (DLe.refl _) (DLes.cons (DLe.refl _) (DLes.cons (DLe.refl _) (DLes.cons (DLe.refl _) (DLes.cons (DLe.refl _) (DLes.cons (DLe.refl _) (DLes.cons (DLe.refl _) (DLes.cons (DLe.refl _) (DLes.cons (DLe.refl _) (DLes.cons (DLe.refl _) (DLes.cons (DLe.refl _) (DLes.cons (DLe.refl _) (DLes.cons (DLe.refl _) (DLes.cons (DLe.refl _) (DLes.cons (DLe.refl _) (DLes.cons (DLe.refl _) (DLes.cons (DLe.refl _) (DLes.nil))))))))))))))))))))⟩, ⟨ze186, DLes.cons (DLe.refl _) (DLes.nil)⟩, ⟨ze188, DLes.cons (DLe.refl _) (DLes.nil)⟩, ⟨ze189, DLes.cons (DLe.refl _) (DLes.nil)⟩, ⟨ze190, DLes.cons (DLe.refl _) (DLes.nil)⟩, ⟨ze192, DLes.cons (DLe.refl _) (DLes.nil)⟩, ⟨ze193, DLes.cons (DLe.refl _) (DLes.nil)⟩, ⟨ze194, DLes.cons (DLe.refl _) (DLes.nil)⟩, ⟨ze195, DLes.cons (DLe.refl _) (DLes.nil)⟩, ⟨ze196, DLes.cons (DLe.refl _) (DLes.nil)⟩, ⟨ze197, DLes.cons (DLe.refl _) (DLes.nil)⟩, ⟨ze198, DLes.cons (DLe.refl _) (DLes.cons (DLe.refl _) (DLes.cons (DLe.refl _) (DLes.nil)))⟩, ⟨ze199, DLes.cons (DLe.refl _) (DLes.cons (DLe.refl _) (DLes.cons (DLe.refl _) (DLes.nil)))⟩, ⟨ze200, DLes.cons (DLe.refl _) (DLes.nil)⟩, ⟨ze201, DLes.cons (DLe.refl _) (DLes.cons (DLe.refl _) (DLes.cons (DLe.refl _) (DLes.cons (DLe.refl _) (DLes.cons (DLe.refl _) (DLes.cons (DLe.refl _) (DLes.cons (DLe.refl _) (DLes.cons (DLe.refl _) (DLes.cons (DLe.refl _) (DLes.cons (DLe.refl _) (DLes.cons (DLe.refl _) (DLes.cons (DLe.refl _) (DLes.cons (DLe.refl _) (DLes.cons (DLe.refl _) (DLes.cons (DLe.refl _) (DLes.cons (DLe.refl _) (DLes.cons (DLe.refl _) (DLes.cons (DLe.refl _) (DLes.cons (DLe.refl _) (DLes.cons (DLe.refl _) (DLes.cons (DLe.refl _) (DLes.cons (DLe.refl _) (DLes.cons (DLe.refl _) (DLes.cons (DLe.refl _) (DLes.cons (DLe.refl _) (DLes.cons (DLe.refl _) (DLes.cons (DLe.refl _) (DLes.cons (DLe.refl _) (DLes.cons (DLe.refl _) (DLes.cons (DLe.refl _) (DLes.cons (DLe.refl _) (DLes.cons (DLe.refl _) (DLes.nil))))))))))))))))))))))))))))))))⟩, ⟨ze203, DLes.cons (DLe.refl _) (DLes.nil)⟩, ⟨ze204, DLes.cons (DLe.refl _) (DLes.nil)⟩, ⟨ze205, DLes.cons (DLe.refl _) (DLes.nil)⟩, ⟨ze206, DLes.cons (DLe.refl _) (DLes.cons (DLe.refl _) (DLes.cons (DLe.refl _) (DLes.cons (DLe.refl _) (DLes.nil))))⟩, ⟨ze207, DLes.cons (DLe.refl _) (DLes.cons (DLe.refl _) (DLes.cons (DLe.refl _) (DLes.cons (DLe.refl _) (DLes.nil))))⟩, ⟨ze208, DLes.nil⟩, ⟨ze209, DLes.nil⟩, ⟨ze210, DLes.nil⟩, ⟨ze211, DLes.cons (DLe.refl _) (DLes.nil)⟩, ⟨ze212, DLes.cons (DLe.refl _) (DLes.nil)⟩, ⟨ze213, DLes.cons (DLe.refl _) (DLes.nil)⟩, ⟨ze214, DLes.cons (DLe.refl _) (DLes.nil)⟩, ⟨ze215, DLes.cons (DLe.refl _) (DLes.nil)⟩, ⟨ze216, DLes.cons (DLe.refl _) (DLes.nil)⟩, ⟨ze217, DLes.cons (DLe.refl _) (DLes.cons (DLe.refl _) (DLes.cons (DLe.refl _) (DLes.cons (DLe.refl _) (DLes.cons (DLe.refl _) (DLes.cons (DLe.refl _) (DLes.cons (DLe.refl _) (DLes.cons (DLe.refl _) (DLes.cons (DLe.refl _) (DLes.cons (DLe.refl _) (DLes.cons (DLe.refl _) (DLes.nil)))))))))))⟩, ⟨ze218, DLes.cons (DLe.refl _) (DLes.cons (DLe.refl _) (DLes.cons (DLe.refl _) (DLes.cons (DLe.refl _) (DLes.cons (DLe.refl _) (DLes.cons (DLe.refl _) (DLes.cons (DLe.refl _) (DLes.cons (DLe.refl _) (DLes.cons (DLe.refl _) (DLes.cons (DLe.refl _) (DLes.cons (DLe.refl _) (DLes.nil)))))))))))⟩, trivial⟩ ⟨pl7, pl8, pl13, pl14, pl18, pl19, pl25, pl26, pl38, pl39, pl40, pl41, pl46, pl47, pl54, pl55, pl62, pl63, pl99, pl100, pl134, pl135, pl139, pl140, pl155, pl156, pl160, pl161, pl163, pl164, pl166, pl167, pl174, pl175, pl198, pl199, pl204, pl205, pl206, pl207, pl209, pl210, pl217, pl218, trivial⟩ ⟨ar106, ar116, ar117, ar151, ar169, ar176, ar184, ar185, ar201, ar202, ar208, trivial⟩ ⟨mk24, mk35, mk36, mk102, mk103, trivial⟩ ⟨mt61, trivial⟩ (by kernel_rfl)
end Go.Proofs.YtddmcmkhjkleoaaGreatDoor
end
