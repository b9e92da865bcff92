/-
  Facts on the program's types.
-/
import Derived.Test.YtenlhfmchhljdaaDoorGj
import Derived.Test.YtenlhfmchhljdaaDoorProg
namespace Go.Proofs.YtenlhfmchhljdaaDoor
open Go.RowKit

theorem ag0 : aggOf? Tryd.prog 0 = some (false, 1) := by kernel_rfl
theorem ag1 : aggOf? Tryd.prog 1 = some (false, 1) := by kernel_rfl
theorem ze1 : zeroOf? Tryd.prog 1 = some [Value.nilFunc] := by kernel_rfl
theorem ag2 : aggOf? Tryd.prog 2 = some (false, 1) := by kernel_rfl
theorem un2 : unOK Tryd.prog 2 (UK.i IntKind.i64) := by show Tryd.prog.underlying 2 = some _; kernel_rfl
theorem ze2 : zeroOf? Tryd.prog 2 = some [Value.int IntKind.i64 (0)] := by kernel_rfl
theorem ag3 : aggOf? Tryd.prog 3 = some (false, 1) := by kernel_rfl
theorem un3 : unOK Tryd.prog 3 (UK.i IntKind.i64) := by show Tryd.prog.underlying 3 = some _; kernel_rfl
theorem ze3 : zeroOf? Tryd.prog 3 = some [Value.int IntKind.i64 (0)] := by kernel_rfl
theorem ag4 : aggOf? Tryd.prog 4 = some (false, 1) := by kernel_rfl
theorem un4 : unOK Tryd.prog 4 (UK.b) := by show Tryd.prog.underlying 4 = some _; kernel_rfl
theorem ze4 : zeroOf? Tryd.prog 4 = some [Value.bool false] := by kernel_rfl
theorem ag5 : aggOf? Tryd.prog 5 = some (false, 1) := by kernel_rfl
theorem un5 : unOK Tryd.prog 5 (UK.i IntKind.u8) := by show Tryd.prog.underlying 5 = some _; kernel_rfl
theorem ze5 : zeroOf? Tryd.prog 5 = some [Value.int IntKind.u8 (0)] := by kernel_rfl
theorem ag6 : aggOf? Tryd.prog 6 = some (false, 1) := by kernel_rfl
theorem un6 : unOK Tryd.prog 6 (UK.i IntKind.u8) := by show Tryd.prog.underlying 6 = some _; kernel_rfl
theorem ze6 : zeroOf? Tryd.prog 6 = some [Value.int IntKind.u8 (0)] := by kernel_rfl
theorem ag7 : aggOf? Tryd.prog 7 = some (true, 4) := by kernel_rfl
theorem ze7 : zeroOf? Tryd.prog 7 = some [Value.int IntKind.i64 (0), Value.int IntKind.i64 (0), Value.bool false, Value.int IntKind.u8 (0)] := by kernel_rfl
theorem fo7_0 : fieldOff? Tryd.prog 7 0 = some 0 := by kernel_rfl
theorem fo7_1 : fieldOff? Tryd.prog 7 1 = some 1 := by kernel_rfl
theorem fo7_2 : fieldOff? Tryd.prog 7 2 = some 2 := by kernel_rfl
theorem fo7_3 : fieldOff? Tryd.prog 7 3 = some 3 := by kernel_rfl
theorem pl7 : PlacesOK Tryd.prog 7 [(0, 1), (1, 1), (2, 1), (3, 1)] := ⟨_, (by kernel_rfl : Tryd.prog.underlying 7 = some (.struct (Tryd.prog.fieldsOf 7))), fun w => by kernel_rfl⟩
theorem ag8 : aggOf? Tryd.prog 8 = some (true, 4) := by kernel_rfl
theorem ze8 : zeroOf? Tryd.prog 8 = some [Value.int IntKind.i64 (0), Value.int IntKind.i64 (0), Value.bool false, Value.int IntKind.u8 (0)] := by kernel_rfl
theorem fo8_0 : fieldOff? Tryd.prog 8 0 = some 0 := by kernel_rfl
theorem fo8_1 : fieldOff? Tryd.prog 8 1 = some 1 := by kernel_rfl
theorem fo8_2 : fieldOff? Tryd.prog 8 2 = some 2 := by kernel_rfl
theorem fo8_3 : fieldOff? Tryd.prog 8 3 = some 3 := by kernel_rfl
theorem pl8 : PlacesOK Tryd.prog 8 [(0, 1), (1, 1), (2, 1), (3, 1)] := ⟨_, (by kernel_rfl : Tryd.prog.underlying 8 = some (.struct (Tryd.prog.fieldsOf 8))), fun w => by kernel_rfl⟩
theorem ag9 : aggOf? Tryd.prog 9 = some (false, 1) := by kernel_rfl
theorem un9 : unOK Tryd.prog 9 (UK.s) := by show Tryd.prog.underlying 9 = some _; kernel_rfl
theorem ze9 : zeroOf? Tryd.prog 9 = some [Value.string { data := { toList := [] } }] := by kernel_rfl
theorem ag10 : aggOf? Tryd.prog 10 = some (false, 1) := by kernel_rfl
theorem un10 : unOK Tryd.prog 10 (UK.s) := by show Tryd.prog.underlying 10 = some _; kernel_rfl
theorem ze10 : zeroOf? Tryd.prog 10 = some [Value.string { data := { toList := [] } }] := by kernel_rfl
theorem ag11 : aggOf? Tryd.prog 11 = some (false, 1) := by kernel_rfl
theorem un11 : unOK Tryd.prog 11 (UK.s) := by show Tryd.prog.underlying 11 = some _; kernel_rfl
theorem ze11 : zeroOf? Tryd.prog 11 = some [Value.string { data := { toList := [] } }] := by kernel_rfl
theorem ag12 : aggOf? Tryd.prog 12 = some (false, 1) := by kernel_rfl
theorem un12 : unOK Tryd.prog 12 (UK.i IntKind.u64) := by show Tryd.prog.underlying 12 = some _; kernel_rfl
theorem ze12 : zeroOf? Tryd.prog 12 = some [Value.int IntKind.u64 (0)] := by kernel_rfl
theorem ag13 : aggOf? Tryd.prog 13 = some (true, 2) := by kernel_rfl
theorem ze13 : zeroOf? Tryd.prog 13 = some [Value.string { data := { toList := [] } }, Value.int IntKind.u64 (0)] := by kernel_rfl
theorem fo13_0 : fieldOff? Tryd.prog 13 0 = some 0 := by kernel_rfl
theorem fo13_1 : fieldOff? Tryd.prog 13 1 = some 1 := by kernel_rfl
theorem pl13 : PlacesOK Tryd.prog 13 [(0, 1), (1, 1)] := ⟨_, (by kernel_rfl : Tryd.prog.underlying 13 = some (.struct (Tryd.prog.fieldsOf 13))), fun w => by kernel_rfl⟩
theorem ag14 : aggOf? Tryd.prog 14 = some (true, 2) := by kernel_rfl
theorem ze14 : zeroOf? Tryd.prog 14 = some [Value.string { data := { toList := [] } }, Value.int IntKind.u64 (0)] := by kernel_rfl
theorem fo14_0 : fieldOff? Tryd.prog 14 0 = some 0 := by kernel_rfl
theorem fo14_1 : fieldOff? Tryd.prog 14 1 = some 1 := by kernel_rfl
theorem pl14 : PlacesOK Tryd.prog 14 [(0, 1), (1, 1)] := ⟨_, (by kernel_rfl : Tryd.prog.underlying 14 = some (.struct (Tryd.prog.fieldsOf 14))), fun w => by kernel_rfl⟩
theorem ag15 : aggOf? Tryd.prog 15 = some (false, 1) := by kernel_rfl
theorem ze15 : zeroOf? Tryd.prog 15 = some [Value.pointer none] := by kernel_rfl
theorem ag16 : aggOf? Tryd.prog 16 = some (false, 1) := by kernel_rfl
theorem ze16 : zeroOf? Tryd.prog 16 = some [Value.pointer none] := by kernel_rfl
theorem ag17 : aggOf? Tryd.prog 17 = some (false, 1) := by kernel_rfl
theorem ze17 : zeroOf? Tryd.prog 17 = some [Value.pointer none] := by kernel_rfl
theorem ag18 : aggOf? Tryd.prog 18 = some (true, 1) := by kernel_rfl
theorem ze18 : zeroOf? Tryd.prog 18 = some [Value.pointer none] := by kernel_rfl
theorem fo18_0 : fieldOff? Tryd.prog 18 0 = some 0 := by kernel_rfl
theorem pl18 : PlacesOK Tryd.prog 18 [(0, 1)] := ⟨_, (by kernel_rfl : Tryd.prog.underlying 18 = some (.struct (Tryd.prog.fieldsOf 18))), fun w => by kernel_rfl⟩
theorem ag19 : aggOf? Tryd.prog 19 = some (true, 1) := by kernel_rfl
theorem ze19 : zeroOf? Tryd.prog 19 = some [Value.pointer none] := by kernel_rfl
theorem fo19_0 : fieldOff? Tryd.prog 19 0 = some 0 := by kernel_rfl
theorem pl19 : PlacesOK Tryd.prog 19 [(0, 1)] := ⟨_, (by kernel_rfl : Tryd.prog.underlying 19 = some (.struct (Tryd.prog.fieldsOf 19))), fun w => by kernel_rfl⟩
theorem ag20 : aggOf? Tryd.prog 20 = some (false, 1) := by kernel_rfl
theorem ze20 : zeroOf? Tryd.prog 20 = some [Value.nilIface] := by kernel_rfl
theorem ag21 : aggOf? Tryd.prog 21 = some (false, 1) := by kernel_rfl
theorem un21 : unOK Tryd.prog 21 (UK.i IntKind.i32) := by show Tryd.prog.underlying 21 = some _; kernel_rfl
theorem ze21 : zeroOf? Tryd.prog 21 = some [Value.int IntKind.i32 (0)] := by kernel_rfl
theorem ag22 : aggOf? Tryd.prog 22 = some (false, 1) := by kernel_rfl
theorem el22 : elemOf? Tryd.prog 22 = some (38, 12) := by kernel_rfl
theorem ro22 : rowT? Tryd.prog 22 = some (38, 12, 96) := by kernel_rfl
theorem ze22 : zeroOf? Tryd.prog 22 = some [Value.slice none 0 0] := by kernel_rfl
theorem ag23 : aggOf? Tryd.prog 23 = some (false, 1) := by kernel_rfl
theorem ze23 : zeroOf? Tryd.prog 23 = some [Value.nilFunc] := by kernel_rfl
theorem ag24 : aggOf? Tryd.prog 24 = some (false, 1) := by kernel_rfl
theorem un24 : unOK Tryd.prog 24 (UK.i IntKind.i64) := by show Tryd.prog.underlying 24 = some _; kernel_rfl
theorem ze24 : zeroOf? Tryd.prog 24 = some [Value.int IntKind.i64 (0)] := by kernel_rfl
theorem ag25 : aggOf? Tryd.prog 25 = some (false, 1) := by kernel_rfl
theorem ag26 : aggOf? Tryd.prog 26 = some (false, 1) := by kernel_rfl
theorem ze26 : zeroOf? Tryd.prog 26 = some [Value.nilFunc] := by kernel_rfl
theorem ag27 : aggOf? Tryd.prog 27 = some (false, 1) := by kernel_rfl
theorem el27 : elemOf? Tryd.prog 27 = some (3, 1) := by kernel_rfl
theorem ro27 : rowT? Tryd.prog 27 = some (3, 1, 8) := by kernel_rfl
theorem mk27 : mkT? Tryd.prog 27 = some (3, Value.int IntKind.i64 (0)) := by kernel_rfl
theorem ze27 : zeroOf? Tryd.prog 27 = some [Value.slice none 0 0] := by kernel_rfl
theorem ag28 : aggOf? Tryd.prog 28 = some (false, 1) := by kernel_rfl
theorem ag29 : aggOf? Tryd.prog 29 = some (false, 1) := by kernel_rfl
theorem ze29 : zeroOf? Tryd.prog 29 = some [Value.nilFunc] := by kernel_rfl
theorem ag30 : aggOf? Tryd.prog 30 = some (false, 1) := by kernel_rfl
theorem ze30 : zeroOf? Tryd.prog 30 = some [Value.nilFunc] := by kernel_rfl
theorem ag31 : aggOf? Tryd.prog 31 = some (false, 1) := by kernel_rfl
theorem ze31 : zeroOf? Tryd.prog 31 = some [Value.nilFunc] := by kernel_rfl
theorem ag32 : aggOf? Tryd.prog 32 = some (false, 1) := by kernel_rfl
theorem ze32 : zeroOf? Tryd.prog 32 = some [Value.nilFunc] := by kernel_rfl
theorem ag33 : aggOf? Tryd.prog 33 = some (false, 1) := by kernel_rfl
theorem ze33 : zeroOf? Tryd.prog 33 = some [Value.nilFunc] := by kernel_rfl
theorem ag34 : aggOf? Tryd.prog 34 = some (false, 1) := by kernel_rfl
theorem ze34 : zeroOf? Tryd.prog 34 = some [Value.nilFunc] := by kernel_rfl
theorem ag35 : aggOf? Tryd.prog 35 = some (true, 2) := by kernel_rfl
theorem ze35 : zeroOf? Tryd.prog 35 = some [Value.int IntKind.i64 (0), Value.int IntKind.i64 (0)] := by kernel_rfl
theorem fo35_0 : fieldOff? Tryd.prog 35 0 = some 0 := by kernel_rfl
theorem fo35_1 : fieldOff? Tryd.prog 35 1 = some 1 := by kernel_rfl
theorem pl35 : PlacesOK Tryd.prog 35 [(0, 1), (1, 1)] := ⟨_, (by kernel_rfl : Tryd.prog.underlying 35 = some (.struct (Tryd.prog.fieldsOf 35))), fun w => by kernel_rfl⟩
theorem ag36 : aggOf? Tryd.prog 36 = some (true, 2) := by kernel_rfl
theorem ze36 : zeroOf? Tryd.prog 36 = some [Value.int IntKind.i64 (0), Value.int IntKind.i64 (0)] := by kernel_rfl
theorem fo36_0 : fieldOff? Tryd.prog 36 0 = some 0 := by kernel_rfl
theorem fo36_1 : fieldOff? Tryd.prog 36 1 = some 1 := by kernel_rfl
theorem pl36 : PlacesOK Tryd.prog 36 [(0, 1), (1, 1)] := ⟨_, (by kernel_rfl : Tryd.prog.underlying 36 = some (.struct (Tryd.prog.fieldsOf 36))), fun w => by kernel_rfl⟩
theorem ag37 : aggOf? Tryd.prog 37 = some (true, 12) := by kernel_rfl
theorem ze37 : zeroOf? Tryd.prog 37 = some [Value.int IntKind.i64 (0), Value.int IntKind.i64 (0), Value.int IntKind.i64 (0), Value.int IntKind.i64 (0), Value.int IntKind.i64 (0), Value.int IntKind.i64 (0), Value.int IntKind.i64 (0), Value.int IntKind.i64 (0), Value.int IntKind.i64 (0), Value.int IntKind.i64 (0), Value.int IntKind.i64 (0), Value.int IntKind.i64 (0)] := by kernel_rfl
theorem fo37_0 : fieldOff? Tryd.prog 37 0 = some 0 := by kernel_rfl
theorem fo37_1 : fieldOff? Tryd.prog 37 1 = some 1 := by kernel_rfl
theorem fo37_2 : fieldOff? Tryd.prog 37 2 = some 2 := by kernel_rfl
theorem fo37_3 : fieldOff? Tryd.prog 37 3 = some 3 := by kernel_rfl
theorem fo37_4 : fieldOff? Tryd.prog 37 4 = some 4 := by kernel_rfl
theorem fo37_5 : fieldOff? Tryd.prog 37 5 = some 5 := by kernel_rfl
theorem fo37_6 : fieldOff? Tryd.prog 37 6 = some 6 := by kernel_rfl
theorem fo37_7 : fieldOff? Tryd.prog 37 7 = some 7 := by kernel_rfl
theorem fo37_8 : fieldOff? Tryd.prog 37 8 = some 8 := by kernel_rfl
theorem fo37_9 : fieldOff? Tryd.prog 37 9 = some 10 := by kernel_rfl
theorem pl37 : PlacesOK Tryd.prog 37 [(0, 1), (1, 1), (2, 1), (3, 1), (4, 1), (5, 1), (6, 1), (7, 1), (8, 2), (10, 2)] := ⟨_, (by kernel_rfl : Tryd.prog.underlying 37 = some (.struct (Tryd.prog.fieldsOf 37))), fun w => by kernel_rfl⟩
theorem ag38 : aggOf? Tryd.prog 38 = some (true, 12) := by kernel_rfl
theorem ze38 : zeroOf? Tryd.prog 38 = some [Value.int IntKind.i64 (0), Value.int IntKind.i64 (0), Value.int IntKind.i64 (0), Value.int IntKind.i64 (0), Value.int IntKind.i64 (0), Value.int IntKind.i64 (0), Value.int IntKind.i64 (0), Value.int IntKind.i64 (0), Value.int IntKind.i64 (0), Value.int IntKind.i64 (0), Value.int IntKind.i64 (0), Value.int IntKind.i64 (0)] := by kernel_rfl
theorem fo38_0 : fieldOff? Tryd.prog 38 0 = some 0 := by kernel_rfl
theorem fo38_1 : fieldOff? Tryd.prog 38 1 = some 1 := by kernel_rfl
theorem fo38_2 : fieldOff? Tryd.prog 38 2 = some 2 := by kernel_rfl
theorem fo38_3 : fieldOff? Tryd.prog 38 3 = some 3 := by kernel_rfl
theorem fo38_4 : fieldOff? Tryd.prog 38 4 = some 4 := by kernel_rfl
theorem fo38_5 : fieldOff? Tryd.prog 38 5 = some 5 := by kernel_rfl
theorem fo38_6 : fieldOff? Tryd.prog 38 6 = some 6 := by kernel_rfl
theorem fo38_7 : fieldOff? Tryd.prog 38 7 = some 7 := by kernel_rfl
theorem fo38_8 : fieldOff? Tryd.prog 38 8 = some 8 := by kernel_rfl
theorem fo38_9 : fieldOff? Tryd.prog 38 9 = some 10 := by kernel_rfl
theorem pl38 : PlacesOK Tryd.prog 38 [(0, 1), (1, 1), (2, 1), (3, 1), (4, 1), (5, 1), (6, 1), (7, 1), (8, 2), (10, 2)] := ⟨_, (by kernel_rfl : Tryd.prog.underlying 38 = some (.struct (Tryd.prog.fieldsOf 38))), fun w => by kernel_rfl⟩
theorem ag39 : aggOf? Tryd.prog 39 = some (false, 1) := by kernel_rfl
theorem ze39 : zeroOf? Tryd.prog 39 = some [Value.nilFunc] := by kernel_rfl
theorem ag40 : aggOf? Tryd.prog 40 = some (true, 3) := by kernel_rfl
theorem ze40 : zeroOf? Tryd.prog 40 = some [Value.int IntKind.i64 (0), Value.int IntKind.i64 (0), Value.int IntKind.u8 (0)] := by kernel_rfl
theorem fo40_0 : fieldOff? Tryd.prog 40 0 = some 0 := by kernel_rfl
theorem fo40_1 : fieldOff? Tryd.prog 40 1 = some 1 := by kernel_rfl
theorem fo40_2 : fieldOff? Tryd.prog 40 2 = some 2 := by kernel_rfl
theorem pl40 : PlacesOK Tryd.prog 40 [(0, 1), (1, 1), (2, 1)] := ⟨_, (by kernel_rfl : Tryd.prog.underlying 40 = some (.struct (Tryd.prog.fieldsOf 40))), fun w => by kernel_rfl⟩
theorem ag41 : aggOf? Tryd.prog 41 = some (true, 3) := by kernel_rfl
theorem ze41 : zeroOf? Tryd.prog 41 = some [Value.int IntKind.i64 (0), Value.int IntKind.i64 (0), Value.int IntKind.u8 (0)] := by kernel_rfl
theorem fo41_0 : fieldOff? Tryd.prog 41 0 = some 0 := by kernel_rfl
theorem fo41_1 : fieldOff? Tryd.prog 41 1 = some 1 := by kernel_rfl
theorem fo41_2 : fieldOff? Tryd.prog 41 2 = some 2 := by kernel_rfl
theorem pl41 : PlacesOK Tryd.prog 41 [(0, 1), (1, 1), (2, 1)] := ⟨_, (by kernel_rfl : Tryd.prog.underlying 41 = some (.struct (Tryd.prog.fieldsOf 41))), fun w => by kernel_rfl⟩
theorem ag42 : aggOf? Tryd.prog 42 = some (false, 1) := by kernel_rfl
theorem el42 : elemOf? Tryd.prog 42 = some (44, 6) := by kernel_rfl
theorem ro42 : rowT? Tryd.prog 42 = some (44, 6, 64) := by kernel_rfl
theorem ze42 : zeroOf? Tryd.prog 42 = some [Value.slice none 0 0] := by kernel_rfl
theorem ag43 : aggOf? Tryd.prog 43 = some (true, 6) := by kernel_rfl
theorem ze43 : zeroOf? Tryd.prog 43 = some [Value.int IntKind.u8 (0), Value.int IntKind.i64 (0), Value.int IntKind.i64 (0), Value.int IntKind.u8 (0), Value.slice none 0 0, Value.int IntKind.i64 (0)] := by kernel_rfl
theorem fo43_0 : fieldOff? Tryd.prog 43 0 = some 0 := by kernel_rfl
theorem fo43_1 : fieldOff? Tryd.prog 43 1 = some 1 := by kernel_rfl
theorem fo43_2 : fieldOff? Tryd.prog 43 2 = some 4 := by kernel_rfl
theorem fo43_3 : fieldOff? Tryd.prog 43 3 = some 5 := by kernel_rfl
theorem pl43 : PlacesOK Tryd.prog 43 [(0, 1), (1, 3), (4, 1), (5, 1)] := ⟨_, (by kernel_rfl : Tryd.prog.underlying 43 = some (.struct (Tryd.prog.fieldsOf 43))), fun w => by kernel_rfl⟩
theorem ag44 : aggOf? Tryd.prog 44 = some (true, 6) := by kernel_rfl
theorem ze44 : zeroOf? Tryd.prog 44 = some [Value.int IntKind.u8 (0), Value.int IntKind.i64 (0), Value.int IntKind.i64 (0), Value.int IntKind.u8 (0), Value.slice none 0 0, Value.int IntKind.i64 (0)] := by kernel_rfl
theorem fo44_0 : fieldOff? Tryd.prog 44 0 = some 0 := by kernel_rfl
theorem fo44_1 : fieldOff? Tryd.prog 44 1 = some 1 := by kernel_rfl
theorem fo44_2 : fieldOff? Tryd.prog 44 2 = some 4 := by kernel_rfl
theorem fo44_3 : fieldOff? Tryd.prog 44 3 = some 5 := by kernel_rfl
theorem pl44 : PlacesOK Tryd.prog 44 [(0, 1), (1, 3), (4, 1), (5, 1)] := ⟨_, (by kernel_rfl : Tryd.prog.underlying 44 = some (.struct (Tryd.prog.fieldsOf 44))), fun w => by kernel_rfl⟩
theorem ag45 : aggOf? Tryd.prog 45 = some (true, 7) := by kernel_rfl
theorem ze45 : zeroOf? Tryd.prog 45 = some [Value.string { data := { toList := [] } }, Value.int IntKind.u8 (0), Value.int IntKind.i64 (0), Value.int IntKind.i64 (0), Value.int IntKind.u8 (0), Value.slice none 0 0, Value.int IntKind.i64 (0)] := by kernel_rfl
theorem fo45_0 : fieldOff? Tryd.prog 45 0 = some 0 := by kernel_rfl
theorem fo45_1 : fieldOff? Tryd.prog 45 1 = some 1 := by kernel_rfl
theorem pl45 : PlacesOK Tryd.prog 45 [(0, 1), (1, 6)] := ⟨_, (by kernel_rfl : Tryd.prog.underlying 45 = some (.struct (Tryd.prog.fieldsOf 45))), fun w => by kernel_rfl⟩
theorem ag46 : aggOf? Tryd.prog 46 = some (true, 7) := by kernel_rfl
theorem ze46 : zeroOf? Tryd.prog 46 = some [Value.string { data := { toList := [] } }, Value.int IntKind.u8 (0), Value.int IntKind.i64 (0), Value.int IntKind.i64 (0), Value.int IntKind.u8 (0), Value.slice none 0 0, Value.int IntKind.i64 (0)] := by kernel_rfl
theorem fo46_0 : fieldOff? Tryd.prog 46 0 = some 0 := by kernel_rfl
theorem fo46_1 : fieldOff? Tryd.prog 46 1 = some 1 := by kernel_rfl
theorem pl46 : PlacesOK Tryd.prog 46 [(0, 1), (1, 6)] := ⟨_, (by kernel_rfl : Tryd.prog.underlying 46 = some (.struct (Tryd.prog.fieldsOf 46))), fun w => by kernel_rfl⟩
theorem ag47 : aggOf? Tryd.prog 47 = some (false, 1) := by kernel_rfl
theorem ag48 : aggOf? Tryd.prog 48 = some (false, 1) := by kernel_rfl
theorem ze48 : zeroOf? Tryd.prog 48 = some [Value.nilFunc] := by kernel_rfl
theorem ag49 : aggOf? Tryd.prog 49 = some (false, 1) := by kernel_rfl
theorem ze49 : zeroOf? Tryd.prog 49 = some [Value.nilFunc] := by kernel_rfl
theorem ag50 : aggOf? Tryd.prog 50 = some (false, 1) := by kernel_rfl
theorem ze50 : zeroOf? Tryd.prog 50 = some [Value.nilFunc] := by kernel_rfl
theorem ag51 : aggOf? Tryd.prog 51 = some (false, 1) := by kernel_rfl
theorem ze51 : zeroOf? Tryd.prog 51 = some [Value.nilFunc] := by kernel_rfl
theorem ag52 : aggOf? Tryd.prog 52 = some (false, 1) := by kernel_rfl
theorem ze52 : zeroOf? Tryd.prog 52 = some [Value.pointer none] := by kernel_rfl
theorem ag53 : aggOf? Tryd.prog 53 = some (true, 2) := by kernel_rfl
theorem ze53 : zeroOf? Tryd.prog 53 = some [Value.string { data := { toList := [] } }, Value.bool false] := by kernel_rfl
theorem fo53_0 : fieldOff? Tryd.prog 53 0 = some 0 := by kernel_rfl
theorem fo53_1 : fieldOff? Tryd.prog 53 1 = some 1 := by kernel_rfl
theorem pl53 : PlacesOK Tryd.prog 53 [(0, 1), (1, 1)] := ⟨_, (by kernel_rfl : Tryd.prog.underlying 53 = some (.struct (Tryd.prog.fieldsOf 53))), fun w => by kernel_rfl⟩
theorem ag54 : aggOf? Tryd.prog 54 = some (true, 2) := by kernel_rfl
theorem ze54 : zeroOf? Tryd.prog 54 = some [Value.string { data := { toList := [] } }, Value.bool false] := by kernel_rfl
theorem fo54_0 : fieldOff? Tryd.prog 54 0 = some 0 := by kernel_rfl
theorem fo54_1 : fieldOff? Tryd.prog 54 1 = some 1 := by kernel_rfl
theorem pl54 : PlacesOK Tryd.prog 54 [(0, 1), (1, 1)] := ⟨_, (by kernel_rfl : Tryd.prog.underlying 54 = some (.struct (Tryd.prog.fieldsOf 54))), fun w => by kernel_rfl⟩
theorem ag55 : aggOf? Tryd.prog 55 = some (false, 1) := by kernel_rfl
theorem ze55 : zeroOf? Tryd.prog 55 = some [Value.nilFunc] := by kernel_rfl
theorem ag56 : aggOf? Tryd.prog 56 = some (false, 1) := by kernel_rfl
theorem ze56 : zeroOf? Tryd.prog 56 = some [Value.nilFunc] := by kernel_rfl
theorem ag57 : aggOf? Tryd.prog 57 = some (false, 1) := by kernel_rfl
theorem ze57 : zeroOf? Tryd.prog 57 = some [Value.nilFunc] := by kernel_rfl
theorem ag58 : aggOf? Tryd.prog 58 = some (false, 1) := by kernel_rfl
theorem ze58 : zeroOf? Tryd.prog 58 = some [Value.nilFunc] := by kernel_rfl
theorem ag59 : aggOf? Tryd.prog 59 = some (false, 1) := by kernel_rfl
theorem ze59 : zeroOf? Tryd.prog 59 = some [Value.nilFunc] := by kernel_rfl
theorem ag60 : aggOf? Tryd.prog 60 = some (false, 1) := by kernel_rfl
theorem ze60 : zeroOf? Tryd.prog 60 = some [Value.nilFunc] := by kernel_rfl
theorem ag61 : aggOf? Tryd.prog 61 = some (false, 1) := by kernel_rfl
theorem ze61 : zeroOf? Tryd.prog 61 = some [Value.nilFunc] := by kernel_rfl
theorem ag62 : aggOf? Tryd.prog 62 = some (false, 1) := by kernel_rfl
theorem ze62 : zeroOf? Tryd.prog 62 = some [Value.nilFunc] := by kernel_rfl
theorem ag63 : aggOf? Tryd.prog 63 = some (true, 256) := by kernel_rfl
theorem ar63 : arrOf? Tryd.prog 63 = some (256, 1) := by kernel_rfl
theorem ag64 : aggOf? Tryd.prog 64 = some (true, 256) := by kernel_rfl
theorem ar64 : arrOf? Tryd.prog 64 = some (256, 1) := by kernel_rfl
theorem ag65 : aggOf? Tryd.prog 65 = some (false, 1) := by kernel_rfl
theorem ag66 : aggOf? Tryd.prog 66 = some (false, 1) := by kernel_rfl
theorem ze66 : zeroOf? Tryd.prog 66 = some [Value.nilFunc] := by kernel_rfl
theorem ag67 : aggOf? Tryd.prog 67 = some (false, 1) := by kernel_rfl
theorem ze67 : zeroOf? Tryd.prog 67 = some [Value.nilFunc] := by kernel_rfl
theorem ag68 : aggOf? Tryd.prog 68 = some (false, 1) := by kernel_rfl
theorem ze68 : zeroOf? Tryd.prog 68 = some [Value.pointer none] := by kernel_rfl
theorem ag69 : aggOf? Tryd.prog 69 = some (false, 1) := by kernel_rfl
theorem el69 : elemOf? Tryd.prog 69 = some (9, 1) := by kernel_rfl
theorem ro69 : rowT? Tryd.prog 69 = some (9, 1, 16) := by kernel_rfl
theorem mk69 : mkT? Tryd.prog 69 = some (9, Value.string { data := { toList := [] } }) := by kernel_rfl
theorem ze69 : zeroOf? Tryd.prog 69 = some [Value.slice none 0 0] := by kernel_rfl
theorem ag70 : aggOf? Tryd.prog 70 = some (false, 1) := by kernel_rfl
theorem ze70 : zeroOf? Tryd.prog 70 = some [Value.nilFunc] := by kernel_rfl
theorem ag71 : aggOf? Tryd.prog 71 = some (false, 1) := by kernel_rfl
theorem ze71 : zeroOf? Tryd.prog 71 = some [Value.nilFunc] := by kernel_rfl
theorem ag72 : aggOf? Tryd.prog 72 = some (true, 9) := by kernel_rfl
theorem ar72 : arrOf? Tryd.prog 72 = some (9, 1) := by kernel_rfl
theorem ze72 : zeroOf? Tryd.prog 72 = some [Value.int IntKind.i64 (0), Value.int IntKind.i64 (0), Value.int IntKind.i64 (0), Value.int IntKind.i64 (0), Value.int IntKind.i64 (0), Value.int IntKind.i64 (0), Value.int IntKind.i64 (0), Value.int IntKind.i64 (0), Value.int IntKind.i64 (0)] := by kernel_rfl
theorem ag73 : aggOf? Tryd.prog 73 = some (false, 1) := by kernel_rfl
theorem ze73 : zeroOf? Tryd.prog 73 = some [Value.nilFunc] := by kernel_rfl
theorem ag74 : aggOf? Tryd.prog 74 = some (false, 1) := by kernel_rfl
theorem ze74 : zeroOf? Tryd.prog 74 = some [Value.nilFunc] := by kernel_rfl
theorem ag75 : aggOf? Tryd.prog 75 = some (false, 1) := by kernel_rfl
theorem ag76 : aggOf? Tryd.prog 76 = some (false, 1) := by kernel_rfl
theorem ze76 : zeroOf? Tryd.prog 76 = some [Value.nilFunc] := by kernel_rfl
theorem ag77 : aggOf? Tryd.prog 77 = some (false, 1) := by kernel_rfl
theorem ze77 : zeroOf? Tryd.prog 77 = some [Value.nilFunc] := by kernel_rfl
theorem ag78 : aggOf? Tryd.prog 78 = some (true, 256) := by kernel_rfl
theorem ar78 : arrOf? Tryd.prog 78 = some (256, 1) := by kernel_rfl
theorem ag79 : aggOf? Tryd.prog 79 = some (false, 1) := by kernel_rfl
theorem ze79 : zeroOf? Tryd.prog 79 = some [Value.nilFunc] := by kernel_rfl
theorem ag80 : aggOf? Tryd.prog 80 = some (false, 1) := by kernel_rfl
theorem ze80 : zeroOf? Tryd.prog 80 = some [Value.nilFunc] := by kernel_rfl
theorem ag81 : aggOf? Tryd.prog 81 = some (false, 1) := by kernel_rfl
theorem ze81 : zeroOf? Tryd.prog 81 = some [Value.nilFunc] := by kernel_rfl
theorem ag82 : aggOf? Tryd.prog 82 = some (false, 1) := by kernel_rfl
theorem un82 : unOK Tryd.prog 82 (UK.i IntKind.u64) := by show Tryd.prog.underlying 82 = some _; kernel_rfl
theorem ze82 : zeroOf? Tryd.prog 82 = some [Value.int IntKind.u64 (0)] := by kernel_rfl
theorem ag83 : aggOf? Tryd.prog 83 = some (false, 1) := by kernel_rfl
theorem ze83 : zeroOf? Tryd.prog 83 = some [Value.nilIface] := by kernel_rfl
theorem ag84 : aggOf? Tryd.prog 84 = some (false, 1) := by kernel_rfl
theorem ze84 : zeroOf? Tryd.prog 84 = some [Value.nilIface] := by kernel_rfl
theorem ag85 : aggOf? Tryd.prog 85 = some (false, 1) := by kernel_rfl
theorem ag86 : aggOf? Tryd.prog 86 = some (false, 1) := by kernel_rfl
theorem ze86 : zeroOf? Tryd.prog 86 = some [Value.nilFunc] := by kernel_rfl
theorem ag87 : aggOf? Tryd.prog 87 = some (false, 1) := by kernel_rfl
theorem ze87 : zeroOf? Tryd.prog 87 = some [Value.nilFunc] := by kernel_rfl
theorem ag88 : aggOf? Tryd.prog 88 = some (false, 1) := by kernel_rfl
theorem el88 : elemOf? Tryd.prog 88 = some (90, 2) := by kernel_rfl
theorem ro88 : rowT? Tryd.prog 88 = some (90, 2, 16) := by kernel_rfl
theorem ze88 : zeroOf? Tryd.prog 88 = some [Value.slice none 0 0] := by kernel_rfl
theorem ag89 : aggOf? Tryd.prog 89 = some (true, 2) := by kernel_rfl
theorem ze89 : zeroOf? Tryd.prog 89 = some [Value.int IntKind.i64 (0), Value.int IntKind.i64 (0)] := by kernel_rfl
theorem fo89_0 : fieldOff? Tryd.prog 89 0 = some 0 := by kernel_rfl
theorem fo89_1 : fieldOff? Tryd.prog 89 1 = some 1 := by kernel_rfl
theorem pl89 : PlacesOK Tryd.prog 89 [(0, 1), (1, 1)] := ⟨_, (by kernel_rfl : Tryd.prog.underlying 89 = some (.struct (Tryd.prog.fieldsOf 89))), fun w => by kernel_rfl⟩
theorem ag90 : aggOf? Tryd.prog 90 = some (true, 2) := by kernel_rfl
theorem ze90 : zeroOf? Tryd.prog 90 = some [Value.int IntKind.i64 (0), Value.int IntKind.i64 (0)] := by kernel_rfl
theorem fo90_0 : fieldOff? Tryd.prog 90 0 = some 0 := by kernel_rfl
theorem fo90_1 : fieldOff? Tryd.prog 90 1 = some 1 := by kernel_rfl
theorem pl90 : PlacesOK Tryd.prog 90 [(0, 1), (1, 1)] := ⟨_, (by kernel_rfl : Tryd.prog.underlying 90 = some (.struct (Tryd.prog.fieldsOf 90))), fun w => by kernel_rfl⟩
theorem ag91 : aggOf? Tryd.prog 91 = some (false, 1) := by kernel_rfl
theorem un91 : unOK Tryd.prog 91 (UK.i IntKind.u32) := by show Tryd.prog.underlying 91 = some _; kernel_rfl
theorem ze91 : zeroOf? Tryd.prog 91 = some [Value.int IntKind.u32 (0)] := by kernel_rfl
theorem ag92 : aggOf? Tryd.prog 92 = some (false, 1) := by kernel_rfl
theorem ze92 : zeroOf? Tryd.prog 92 = some [Value.nilFunc] := by kernel_rfl
theorem ag93 : aggOf? Tryd.prog 93 = some (false, 1) := by kernel_rfl
theorem ze93 : zeroOf? Tryd.prog 93 = some [Value.pointer none] := by kernel_rfl
theorem ag94 : aggOf? Tryd.prog 94 = some (false, 1) := by kernel_rfl
theorem ze94 : zeroOf? Tryd.prog 94 = some [Value.nilFunc] := by kernel_rfl
theorem ag95 : aggOf? Tryd.prog 95 = some (false, 1) := by kernel_rfl
theorem ze95 : zeroOf? Tryd.prog 95 = some [Value.nilFunc] := by kernel_rfl
theorem ag96 : aggOf? Tryd.prog 96 = some (false, 1) := by kernel_rfl
theorem ze96 : zeroOf? Tryd.prog 96 = some [Value.nilFunc] := by kernel_rfl
theorem ag97 : aggOf? Tryd.prog 97 = some (false, 1) := by kernel_rfl
theorem un97 : unOK Tryd.prog 97 (UK.i IntKind.u64) := by show Tryd.prog.underlying 97 = some _; kernel_rfl
theorem ze97 : zeroOf? Tryd.prog 97 = some [Value.int IntKind.u64 (0)] := by kernel_rfl
theorem ag98 : aggOf? Tryd.prog 98 = some (true, 2) := by kernel_rfl
theorem ze98 : zeroOf? Tryd.prog 98 = some [Value.int IntKind.u8 (0), Value.int IntKind.u8 (0)] := by kernel_rfl
theorem fo98_0 : fieldOff? Tryd.prog 98 0 = some 0 := by kernel_rfl
theorem fo98_1 : fieldOff? Tryd.prog 98 1 = some 1 := by kernel_rfl
theorem pl98 : PlacesOK Tryd.prog 98 [(0, 1), (1, 1)] := ⟨_, (by kernel_rfl : Tryd.prog.underlying 98 = some (.struct (Tryd.prog.fieldsOf 98))), fun w => by kernel_rfl⟩
theorem ag99 : aggOf? Tryd.prog 99 = some (true, 2) := by kernel_rfl
theorem ze99 : zeroOf? Tryd.prog 99 = some [Value.int IntKind.u8 (0), Value.int IntKind.u8 (0)] := by kernel_rfl
theorem fo99_0 : fieldOff? Tryd.prog 99 0 = some 0 := by kernel_rfl
theorem fo99_1 : fieldOff? Tryd.prog 99 1 = some 1 := by kernel_rfl
theorem pl99 : PlacesOK Tryd.prog 99 [(0, 1), (1, 1)] := ⟨_, (by kernel_rfl : Tryd.prog.underlying 99 = some (.struct (Tryd.prog.fieldsOf 99))), fun w => by kernel_rfl⟩
theorem ag100 : aggOf? Tryd.prog 100 = some (true, 32) := by kernel_rfl
theorem ar100 : arrOf? Tryd.prog 100 = some (16, 2) := by kernel_rfl
theorem ze100 : zeroOf? Tryd.prog 100 = some [Value.int IntKind.u8 (0), Value.int IntKind.u8 (0), Value.int IntKind.u8 (0), Value.int IntKind.u8 (0), Value.int IntKind.u8 (0), Value.int IntKind.u8 (0), Value.int IntKind.u8 (0), Value.int IntKind.u8 (0), Value.int IntKind.u8 (0), Value.int IntKind.u8 (0), Value.int IntKind.u8 (0), Value.int IntKind.u8 (0), Value.int IntKind.u8 (0), Value.int IntKind.u8 (0), Value.int IntKind.u8 (0), Value.int IntKind.u8 (0), Value.int IntKind.u8 (0), Value.int IntKind.u8 (0), Value.int IntKind.u8 (0), Value.int IntKind.u8 (0), Value.int IntKind.u8 (0), Value.int IntKind.u8 (0), Value.int IntKind.u8 (0), Value.int IntKind.u8 (0), Value.int IntKind.u8 (0), Value.int IntKind.u8 (0), Value.int IntKind.u8 (0), Value.int IntKind.u8 (0), Value.int IntKind.u8 (0), Value.int IntKind.u8 (0), Value.int IntKind.u8 (0), Value.int IntKind.u8 (0)] := by kernel_rfl
theorem ag101 : aggOf? Tryd.prog 101 = some (false, 1) := by kernel_rfl
theorem ze101 : zeroOf? Tryd.prog 101 = some [Value.nilFunc] := by kernel_rfl
theorem ag102 : aggOf? Tryd.prog 102 = some (false, 1) := by kernel_rfl
theorem el102 : elemOf? Tryd.prog 102 = some (108, 3) := by kernel_rfl
theorem ro102 : rowT? Tryd.prog 102 = some (108, 3, 6) := by kernel_rfl
theorem ze102 : zeroOf? Tryd.prog 102 = some [Value.slice none 0 0] := by kernel_rfl
theorem ag103 : aggOf? Tryd.prog 103 = some (false, 1) := by kernel_rfl
theorem el103 : elemOf? Tryd.prog 103 = some (111, 3) := by kernel_rfl
theorem ro103 : rowT? Tryd.prog 103 = some (111, 3, 12) := by kernel_rfl
theorem ze103 : zeroOf? Tryd.prog 103 = some [Value.slice none 0 0] := by kernel_rfl
theorem ag104 : aggOf? Tryd.prog 104 = some (true, 3) := by kernel_rfl
theorem ze104 : zeroOf? Tryd.prog 104 = some [Value.slice none 0 0, Value.slice none 0 0, Value.int IntKind.i64 (0)] := by kernel_rfl
theorem fo104_0 : fieldOff? Tryd.prog 104 0 = some 0 := by kernel_rfl
theorem fo104_1 : fieldOff? Tryd.prog 104 1 = some 1 := by kernel_rfl
theorem fo104_2 : fieldOff? Tryd.prog 104 2 = some 2 := by kernel_rfl
theorem pl104 : PlacesOK Tryd.prog 104 [(0, 1), (1, 1), (2, 1)] := ⟨_, (by kernel_rfl : Tryd.prog.underlying 104 = some (.struct (Tryd.prog.fieldsOf 104))), fun w => by kernel_rfl⟩
theorem ag105 : aggOf? Tryd.prog 105 = some (true, 3) := by kernel_rfl
theorem ze105 : zeroOf? Tryd.prog 105 = some [Value.slice none 0 0, Value.slice none 0 0, Value.int IntKind.i64 (0)] := by kernel_rfl
theorem fo105_0 : fieldOff? Tryd.prog 105 0 = some 0 := by kernel_rfl
theorem fo105_1 : fieldOff? Tryd.prog 105 1 = some 1 := by kernel_rfl
theorem fo105_2 : fieldOff? Tryd.prog 105 2 = some 2 := by kernel_rfl
theorem pl105 : PlacesOK Tryd.prog 105 [(0, 1), (1, 1), (2, 1)] := ⟨_, (by kernel_rfl : Tryd.prog.underlying 105 = some (.struct (Tryd.prog.fieldsOf 105))), fun w => by kernel_rfl⟩
theorem ag106 : aggOf? Tryd.prog 106 = some (false, 1) := by kernel_rfl
theorem un106 : unOK Tryd.prog 106 (UK.i IntKind.u16) := by show Tryd.prog.underlying 106 = some _; kernel_rfl
theorem ze106 : zeroOf? Tryd.prog 106 = some [Value.int IntKind.u16 (0)] := by kernel_rfl
theorem ag107 : aggOf? Tryd.prog 107 = some (true, 3) := by kernel_rfl
theorem ze107 : zeroOf? Tryd.prog 107 = some [Value.int IntKind.u16 (0), Value.int IntKind.u16 (0), Value.int IntKind.u16 (0)] := by kernel_rfl
theorem fo107_0 : fieldOff? Tryd.prog 107 0 = some 0 := by kernel_rfl
theorem fo107_1 : fieldOff? Tryd.prog 107 1 = some 1 := by kernel_rfl
theorem fo107_2 : fieldOff? Tryd.prog 107 2 = some 2 := by kernel_rfl
theorem pl107 : PlacesOK Tryd.prog 107 [(0, 1), (1, 1), (2, 1)] := ⟨_, (by kernel_rfl : Tryd.prog.underlying 107 = some (.struct (Tryd.prog.fieldsOf 107))), fun w => by kernel_rfl⟩
theorem ag108 : aggOf? Tryd.prog 108 = some (true, 3) := by kernel_rfl
theorem ze108 : zeroOf? Tryd.prog 108 = some [Value.int IntKind.u16 (0), Value.int IntKind.u16 (0), Value.int IntKind.u16 (0)] := by kernel_rfl
theorem fo108_0 : fieldOff? Tryd.prog 108 0 = some 0 := by kernel_rfl
theorem fo108_1 : fieldOff? Tryd.prog 108 1 = some 1 := by kernel_rfl
theorem fo108_2 : fieldOff? Tryd.prog 108 2 = some 2 := by kernel_rfl
theorem pl108 : PlacesOK Tryd.prog 108 [(0, 1), (1, 1), (2, 1)] := ⟨_, (by kernel_rfl : Tryd.prog.underlying 108 = some (.struct (Tryd.prog.fieldsOf 108))), fun w => by kernel_rfl⟩
theorem ag109 : aggOf? Tryd.prog 109 = some (false, 1) := by kernel_rfl
theorem ze109 : zeroOf? Tryd.prog 109 = some [Value.nilFunc] := by kernel_rfl
theorem ag110 : aggOf? Tryd.prog 110 = some (true, 3) := by kernel_rfl
theorem ze110 : zeroOf? Tryd.prog 110 = some [Value.int IntKind.u32 (0), Value.int IntKind.u32 (0), Value.int IntKind.u32 (0)] := by kernel_rfl
theorem fo110_0 : fieldOff? Tryd.prog 110 0 = some 0 := by kernel_rfl
theorem fo110_1 : fieldOff? Tryd.prog 110 1 = some 1 := by kernel_rfl
theorem fo110_2 : fieldOff? Tryd.prog 110 2 = some 2 := by kernel_rfl
theorem pl110 : PlacesOK Tryd.prog 110 [(0, 1), (1, 1), (2, 1)] := ⟨_, (by kernel_rfl : Tryd.prog.underlying 110 = some (.struct (Tryd.prog.fieldsOf 110))), fun w => by kernel_rfl⟩
theorem ag111 : aggOf? Tryd.prog 111 = some (true, 3) := by kernel_rfl
theorem ze111 : zeroOf? Tryd.prog 111 = some [Value.int IntKind.u32 (0), Value.int IntKind.u32 (0), Value.int IntKind.u32 (0)] := by kernel_rfl
theorem fo111_0 : fieldOff? Tryd.prog 111 0 = some 0 := by kernel_rfl
theorem fo111_1 : fieldOff? Tryd.prog 111 1 = some 1 := by kernel_rfl
theorem fo111_2 : fieldOff? Tryd.prog 111 2 = some 2 := by kernel_rfl
theorem pl111 : PlacesOK Tryd.prog 111 [(0, 1), (1, 1), (2, 1)] := ⟨_, (by kernel_rfl : Tryd.prog.underlying 111 = some (.struct (Tryd.prog.fieldsOf 111))), fun w => by kernel_rfl⟩
theorem ag112 : aggOf? Tryd.prog 112 = some (false, 1) := by kernel_rfl
theorem ze112 : zeroOf? Tryd.prog 112 = some [Value.nilFunc] := by kernel_rfl
theorem ag113 : aggOf? Tryd.prog 113 = some (true, 24) := by kernel_rfl
theorem ar113 : arrOf? Tryd.prog 113 = some (24, 1) := by kernel_rfl
theorem ze113 : zeroOf? Tryd.prog 113 = some [Value.int IntKind.u8 (0), Value.int IntKind.u8 (0), Value.int IntKind.u8 (0), Value.int IntKind.u8 (0), Value.int IntKind.u8 (0), Value.int IntKind.u8 (0), Value.int IntKind.u8 (0), Value.int IntKind.u8 (0), Value.int IntKind.u8 (0), Value.int IntKind.u8 (0), Value.int IntKind.u8 (0), Value.int IntKind.u8 (0), Value.int IntKind.u8 (0), Value.int IntKind.u8 (0), Value.int IntKind.u8 (0), Value.int IntKind.u8 (0), Value.int IntKind.u8 (0), Value.int IntKind.u8 (0), Value.int IntKind.u8 (0), Value.int IntKind.u8 (0), Value.int IntKind.u8 (0), Value.int IntKind.u8 (0), Value.int IntKind.u8 (0), Value.int IntKind.u8 (0)] := by kernel_rfl
theorem ag114 : aggOf? Tryd.prog 114 = some (false, 1) := by kernel_rfl
theorem ze114 : zeroOf? Tryd.prog 114 = some [Value.nilFunc] := by kernel_rfl
theorem ag115 : aggOf? Tryd.prog 115 = some (false, 1) := by kernel_rfl
theorem ze115 : zeroOf? Tryd.prog 115 = some [Value.nilFunc] := by kernel_rfl
theorem ag116 : aggOf? Tryd.prog 116 = some (false, 1) := by kernel_rfl
theorem el116 : elemOf? Tryd.prog 116 = some (5, 1) := by kernel_rfl
theorem ro116 : rowT? Tryd.prog 116 = some (5, 1, 1) := by kernel_rfl
theorem mk116 : mkT? Tryd.prog 116 = some (5, Value.int IntKind.u8 (0)) := by kernel_rfl
theorem ze116 : zeroOf? Tryd.prog 116 = some [Value.slice none 0 0] := by kernel_rfl
theorem ag117 : aggOf? Tryd.prog 117 = some (false, 1) := by kernel_rfl
theorem ag118 : aggOf? Tryd.prog 118 = some (false, 1) := by kernel_rfl
theorem ze118 : zeroOf? Tryd.prog 118 = some [Value.nilFunc] := by kernel_rfl
theorem ag119 : aggOf? Tryd.prog 119 = some (false, 1) := by kernel_rfl
theorem un119 : unOK Tryd.prog 119 (UK.i IntKind.i64) := by show Tryd.prog.underlying 119 = some _; kernel_rfl
theorem ze119 : zeroOf? Tryd.prog 119 = some [Value.int IntKind.i64 (0)] := by kernel_rfl
theorem ag120 : aggOf? Tryd.prog 120 = some (false, 1) := by kernel_rfl
theorem ze120 : zeroOf? Tryd.prog 120 = some [Value.nilFunc] := by kernel_rfl
theorem ag121 : aggOf? Tryd.prog 121 = some (false, 1) := by kernel_rfl
theorem ze121 : zeroOf? Tryd.prog 121 = some [Value.nilFunc] := by kernel_rfl
theorem ag122 : aggOf? Tryd.prog 122 = some (false, 1) := by kernel_rfl
theorem ze122 : zeroOf? Tryd.prog 122 = some [Value.pointer none] := by kernel_rfl
theorem ag123 : aggOf? Tryd.prog 123 = some (false, 1) := by kernel_rfl
theorem ze123 : zeroOf? Tryd.prog 123 = some [Value.nilFunc] := by kernel_rfl
theorem ag124 : aggOf? Tryd.prog 124 = some (false, 1) := by kernel_rfl
theorem ze124 : zeroOf? Tryd.prog 124 = some [Value.nilFunc] := by kernel_rfl
theorem ag125 : aggOf? Tryd.prog 125 = some (false, 1) := by kernel_rfl
theorem ze125 : zeroOf? Tryd.prog 125 = some [Value.pointer none] := by kernel_rfl
theorem ag126 : aggOf? Tryd.prog 126 = some (false, 1) := by kernel_rfl
theorem ze126 : zeroOf? Tryd.prog 126 = some [Value.pointer none] := by kernel_rfl
theorem ag127 : aggOf? Tryd.prog 127 = some (false, 1) := by kernel_rfl
theorem ze127 : zeroOf? Tryd.prog 127 = some [Value.nilFunc] := by kernel_rfl
theorem ag128 : aggOf? Tryd.prog 128 = some (true, 20) := by kernel_rfl
theorem ar128 : arrOf? Tryd.prog 128 = some (20, 1) := by kernel_rfl
theorem ze128 : zeroOf? Tryd.prog 128 = some [Value.int IntKind.u64 (0), Value.int IntKind.u64 (0), Value.int IntKind.u64 (0), Value.int IntKind.u64 (0), Value.int IntKind.u64 (0), Value.int IntKind.u64 (0), Value.int IntKind.u64 (0), Value.int IntKind.u64 (0), Value.int IntKind.u64 (0), Value.int IntKind.u64 (0), Value.int IntKind.u64 (0), Value.int IntKind.u64 (0), Value.int IntKind.u64 (0), Value.int IntKind.u64 (0), Value.int IntKind.u64 (0), Value.int IntKind.u64 (0), Value.int IntKind.u64 (0), Value.int IntKind.u64 (0), Value.int IntKind.u64 (0), Value.int IntKind.u64 (0)] := by kernel_rfl
theorem ag129 : aggOf? Tryd.prog 129 = some (true, 65) := by kernel_rfl
theorem ar129 : arrOf? Tryd.prog 129 = some (65, 1) := by kernel_rfl
theorem ze129 : zeroOf? Tryd.prog 129 = some [Value.int IntKind.u8 (0), Value.int IntKind.u8 (0), Value.int IntKind.u8 (0), Value.int IntKind.u8 (0), Value.int IntKind.u8 (0), Value.int IntKind.u8 (0), Value.int IntKind.u8 (0), Value.int IntKind.u8 (0), Value.int IntKind.u8 (0), Value.int IntKind.u8 (0), Value.int IntKind.u8 (0), Value.int IntKind.u8 (0), Value.int IntKind.u8 (0), Value.int IntKind.u8 (0), Value.int IntKind.u8 (0), Value.int IntKind.u8 (0), Value.int IntKind.u8 (0), Value.int IntKind.u8 (0), Value.int IntKind.u8 (0), Value.int IntKind.u8 (0), Value.int IntKind.u8 (0), Value.int IntKind.u8 (0), Value.int IntKind.u8 (0), Value.int IntKind.u8 (0), Value.int IntKind.u8 (0), Value.int IntKind.u8 (0), Value.int IntKind.u8 (0), Value.int IntKind.u8 (0), Value.int IntKind.u8 (0), Value.int IntKind.u8 (0), Value.int IntKind.u8 (0), Value.int IntKind.u8 (0), Value.int IntKind.u8 (0), Value.int IntKind.u8 (0), Value.int IntKind.u8 (0), Value.int IntKind.u8 (0), Value.int IntKind.u8 (0), Value.int IntKind.u8 (0), Value.int IntKind.u8 (0), Value.int IntKind.u8 (0), Value.int IntKind.u8 (0), Value.int IntKind.u8 (0), Value.int IntKind.u8 (0), Value.int IntKind.u8 (0), Value.int IntKind.u8 (0), Value.int IntKind.u8 (0), Value.int IntKind.u8 (0), Value.int IntKind.u8 (0), Value.int IntKind.u8 (0), Value.int IntKind.u8 (0), Value.int IntKind.u8 (0), Value.int IntKind.u8 (0), Value.int IntKind.u8 (0), Value.int IntKind.u8 (0), Value.int IntKind.u8 (0), Value.int IntKind.u8 (0), Value.int IntKind.u8 (0), Value.int IntKind.u8 (0), Value.int IntKind.u8 (0), Value.int IntKind.u8 (0), Value.int IntKind.u8 (0), Value.int IntKind.u8 (0), Value.int IntKind.u8 (0), Value.int IntKind.u8 (0), Value.int IntKind.u8 (0)] := by kernel_rfl
theorem ag130 : aggOf? Tryd.prog 130 = some (false, 1) := by kernel_rfl
theorem ze130 : zeroOf? Tryd.prog 130 = some [Value.nilFunc] := by kernel_rfl
theorem ag131 : aggOf? Tryd.prog 131 = some (false, 1) := by kernel_rfl
theorem ze131 : zeroOf? Tryd.prog 131 = some [Value.nilFunc] := by kernel_rfl
theorem ag132 : aggOf? Tryd.prog 132 = some (false, 1) := by kernel_rfl
theorem ze132 : zeroOf? Tryd.prog 132 = some [Value.nilFunc] := by kernel_rfl
theorem ag133 : aggOf? Tryd.prog 133 = some (true, 3) := by kernel_rfl
theorem ze133 : zeroOf? Tryd.prog 133 = some [Value.string { data := { toList := [] } }, Value.string { data := { toList := [] } }, Value.nilIface] := by kernel_rfl
theorem fo133_0 : fieldOff? Tryd.prog 133 0 = some 0 := by kernel_rfl
theorem fo133_1 : fieldOff? Tryd.prog 133 1 = some 1 := by kernel_rfl
theorem fo133_2 : fieldOff? Tryd.prog 133 2 = some 2 := by kernel_rfl
theorem pl133 : PlacesOK Tryd.prog 133 [(0, 1), (1, 1), (2, 1)] := ⟨_, (by kernel_rfl : Tryd.prog.underlying 133 = some (.struct (Tryd.prog.fieldsOf 133))), fun w => by kernel_rfl⟩
theorem ag134 : aggOf? Tryd.prog 134 = some (true, 3) := by kernel_rfl
theorem ze134 : zeroOf? Tryd.prog 134 = some [Value.string { data := { toList := [] } }, Value.string { data := { toList := [] } }, Value.nilIface] := by kernel_rfl
theorem fo134_0 : fieldOff? Tryd.prog 134 0 = some 0 := by kernel_rfl
theorem fo134_1 : fieldOff? Tryd.prog 134 1 = some 1 := by kernel_rfl
theorem fo134_2 : fieldOff? Tryd.prog 134 2 = some 2 := by kernel_rfl
theorem pl134 : PlacesOK Tryd.prog 134 [(0, 1), (1, 1), (2, 1)] := ⟨_, (by kernel_rfl : Tryd.prog.underlying 134 = some (.struct (Tryd.prog.fieldsOf 134))), fun w => by kernel_rfl⟩
theorem ag135 : aggOf? Tryd.prog 135 = some (false, 1) := by kernel_rfl
theorem ze135 : zeroOf? Tryd.prog 135 = some [Value.nilFunc] := by kernel_rfl
theorem ag136 : aggOf? Tryd.prog 136 = some (false, 1) := by kernel_rfl
theorem ze136 : zeroOf? Tryd.prog 136 = some [Value.nilFunc] := by kernel_rfl
theorem ag137 : aggOf? Tryd.prog 137 = some (false, 1) := by kernel_rfl
theorem ze137 : zeroOf? Tryd.prog 137 = some [Value.pointer none] := by kernel_rfl
theorem ag138 : aggOf? Tryd.prog 138 = some (false, 1) := by kernel_rfl
theorem ze138 : zeroOf? Tryd.prog 138 = some [Value.pointer none] := by kernel_rfl
theorem ag139 : aggOf? Tryd.prog 139 = some (true, 1) := by kernel_rfl
theorem ze139 : zeroOf? Tryd.prog 139 = some [Value.string { data := { toList := [] } }] := by kernel_rfl
theorem fo139_0 : fieldOff? Tryd.prog 139 0 = some 0 := by kernel_rfl
theorem pl139 : PlacesOK Tryd.prog 139 [(0, 1)] := ⟨_, (by kernel_rfl : Tryd.prog.underlying 139 = some (.struct (Tryd.prog.fieldsOf 139))), fun w => by kernel_rfl⟩
theorem ag140 : aggOf? Tryd.prog 140 = some (true, 1) := by kernel_rfl
theorem ze140 : zeroOf? Tryd.prog 140 = some [Value.string { data := { toList := [] } }] := by kernel_rfl
theorem fo140_0 : fieldOff? Tryd.prog 140 0 = some 0 := by kernel_rfl
theorem pl140 : PlacesOK Tryd.prog 140 [(0, 1)] := ⟨_, (by kernel_rfl : Tryd.prog.underlying 140 = some (.struct (Tryd.prog.fieldsOf 140))), fun w => by kernel_rfl⟩
theorem ag141 : aggOf? Tryd.prog 141 = some (true, 32) := by kernel_rfl
theorem ar141 : arrOf? Tryd.prog 141 = some (32, 1) := by kernel_rfl
theorem ze141 : zeroOf? Tryd.prog 141 = some [Value.int IntKind.u8 (0), Value.int IntKind.u8 (0), Value.int IntKind.u8 (0), Value.int IntKind.u8 (0), Value.int IntKind.u8 (0), Value.int IntKind.u8 (0), Value.int IntKind.u8 (0), Value.int IntKind.u8 (0), Value.int IntKind.u8 (0), Value.int IntKind.u8 (0), Value.int IntKind.u8 (0), Value.int IntKind.u8 (0), Value.int IntKind.u8 (0), Value.int IntKind.u8 (0), Value.int IntKind.u8 (0), Value.int IntKind.u8 (0), Value.int IntKind.u8 (0), Value.int IntKind.u8 (0), Value.int IntKind.u8 (0), Value.int IntKind.u8 (0), Value.int IntKind.u8 (0), Value.int IntKind.u8 (0), Value.int IntKind.u8 (0), Value.int IntKind.u8 (0), Value.int IntKind.u8 (0), Value.int IntKind.u8 (0), Value.int IntKind.u8 (0), Value.int IntKind.u8 (0), Value.int IntKind.u8 (0), Value.int IntKind.u8 (0), Value.int IntKind.u8 (0), Value.int IntKind.u8 (0)] := by kernel_rfl
theorem ag142 : aggOf? Tryd.prog 142 = some (true, 64) := by kernel_rfl
theorem ar142 : arrOf? Tryd.prog 142 = some (64, 1) := by kernel_rfl
theorem ze142 : zeroOf? Tryd.prog 142 = some [Value.int IntKind.u8 (0), Value.int IntKind.u8 (0), Value.int IntKind.u8 (0), Value.int IntKind.u8 (0), Value.int IntKind.u8 (0), Value.int IntKind.u8 (0), Value.int IntKind.u8 (0), Value.int IntKind.u8 (0), Value.int IntKind.u8 (0), Value.int IntKind.u8 (0), Value.int IntKind.u8 (0), Value.int IntKind.u8 (0), Value.int IntKind.u8 (0), Value.int IntKind.u8 (0), Value.int IntKind.u8 (0), Value.int IntKind.u8 (0), Value.int IntKind.u8 (0), Value.int IntKind.u8 (0), Value.int IntKind.u8 (0), Value.int IntKind.u8 (0), Value.int IntKind.u8 (0), Value.int IntKind.u8 (0), Value.int IntKind.u8 (0), Value.int IntKind.u8 (0), Value.int IntKind.u8 (0), Value.int IntKind.u8 (0), Value.int IntKind.u8 (0), Value.int IntKind.u8 (0), Value.int IntKind.u8 (0), Value.int IntKind.u8 (0), Value.int IntKind.u8 (0), Value.int IntKind.u8 (0), Value.int IntKind.u8 (0), Value.int IntKind.u8 (0), Value.int IntKind.u8 (0), Value.int IntKind.u8 (0), Value.int IntKind.u8 (0), Value.int IntKind.u8 (0), Value.int IntKind.u8 (0), Value.int IntKind.u8 (0), Value.int IntKind.u8 (0), Value.int IntKind.u8 (0), Value.int IntKind.u8 (0), Value.int IntKind.u8 (0), Value.int IntKind.u8 (0), Value.int IntKind.u8 (0), Value.int IntKind.u8 (0), Value.int IntKind.u8 (0), Value.int IntKind.u8 (0), Value.int IntKind.u8 (0), Value.int IntKind.u8 (0), Value.int IntKind.u8 (0), Value.int IntKind.u8 (0), Value.int IntKind.u8 (0), Value.int IntKind.u8 (0), Value.int IntKind.u8 (0), Value.int IntKind.u8 (0), Value.int IntKind.u8 (0), Value.int IntKind.u8 (0), Value.int IntKind.u8 (0), Value.int IntKind.u8 (0), Value.int IntKind.u8 (0), Value.int IntKind.u8 (0), Value.int IntKind.u8 (0)] := by kernel_rfl
theorem ag143 : aggOf? Tryd.prog 143 = some (true, 4) := by kernel_rfl
theorem ze143 : zeroOf? Tryd.prog 143 = some [Value.pointer none, Value.pointer none, Value.pointer none, Value.string { data := { toList := [] } }] := by kernel_rfl
theorem fo143_0 : fieldOff? Tryd.prog 143 0 = some 0 := by kernel_rfl
theorem fo143_1 : fieldOff? Tryd.prog 143 1 = some 1 := by kernel_rfl
theorem fo143_2 : fieldOff? Tryd.prog 143 2 = some 2 := by kernel_rfl
theorem fo143_3 : fieldOff? Tryd.prog 143 3 = some 3 := by kernel_rfl
theorem pl143 : PlacesOK Tryd.prog 143 [(0, 1), (1, 1), (2, 1), (3, 1)] := ⟨_, (by kernel_rfl : Tryd.prog.underlying 143 = some (.struct (Tryd.prog.fieldsOf 143))), fun w => by kernel_rfl⟩
theorem ag144 : aggOf? Tryd.prog 144 = some (true, 4) := by kernel_rfl
theorem ze144 : zeroOf? Tryd.prog 144 = some [Value.pointer none, Value.pointer none, Value.pointer none, Value.string { data := { toList := [] } }] := by kernel_rfl
theorem fo144_0 : fieldOff? Tryd.prog 144 0 = some 0 := by kernel_rfl
theorem fo144_1 : fieldOff? Tryd.prog 144 1 = some 1 := by kernel_rfl
theorem fo144_2 : fieldOff? Tryd.prog 144 2 = some 2 := by kernel_rfl
theorem fo144_3 : fieldOff? Tryd.prog 144 3 = some 3 := by kernel_rfl
theorem pl144 : PlacesOK Tryd.prog 144 [(0, 1), (1, 1), (2, 1), (3, 1)] := ⟨_, (by kernel_rfl : Tryd.prog.underlying 144 = some (.struct (Tryd.prog.fieldsOf 144))), fun w => by kernel_rfl⟩
theorem ag145 : aggOf? Tryd.prog 145 = some (true, 0) := by kernel_rfl
theorem ar145 : arrOf? Tryd.prog 145 = some (0, 1) := by kernel_rfl
theorem ze145 : zeroOf? Tryd.prog 145 = some [] := by kernel_rfl
theorem ag146 : aggOf? Tryd.prog 146 = some (true, 0) := by kernel_rfl
theorem ze146 : zeroOf? Tryd.prog 146 = some [] := by kernel_rfl
theorem pl146 : PlacesOK Tryd.prog 146 [(0, 0)] := ⟨_, (by kernel_rfl : Tryd.prog.underlying 146 = some (.struct (Tryd.prog.fieldsOf 146))), fun w => by kernel_rfl⟩
theorem ag147 : aggOf? Tryd.prog 147 = some (true, 0) := by kernel_rfl
theorem ze147 : zeroOf? Tryd.prog 147 = some [] := by kernel_rfl
theorem pl147 : PlacesOK Tryd.prog 147 [(0, 0)] := ⟨_, (by kernel_rfl : Tryd.prog.underlying 147 = some (.struct (Tryd.prog.fieldsOf 147))), fun w => by kernel_rfl⟩
theorem ag148 : aggOf? Tryd.prog 148 = some (false, 1) := by kernel_rfl
theorem un148 : unOK Tryd.prog 148 (UK.i IntKind.u8) := by show Tryd.prog.underlying 148 = some _; kernel_rfl
theorem ze148 : zeroOf? Tryd.prog 148 = some [Value.int IntKind.u8 (0)] := by kernel_rfl
theorem ag149 : aggOf? Tryd.prog 149 = some (false, 1) := by kernel_rfl
theorem un149 : unOK Tryd.prog 149 (UK.i IntKind.u8) := by show Tryd.prog.underlying 149 = some _; kernel_rfl
theorem ze149 : zeroOf? Tryd.prog 149 = some [Value.int IntKind.u8 (0)] := by kernel_rfl
theorem ag150 : aggOf? Tryd.prog 150 = some (false, 1) := by kernel_rfl
theorem ze150 : zeroOf? Tryd.prog 150 = some [Value.nilFunc] := by kernel_rfl
theorem ag151 : aggOf? Tryd.prog 151 = some (false, 1) := by kernel_rfl
theorem un151 : unOK Tryd.prog 151 (UK.i IntKind.i32) := by show Tryd.prog.underlying 151 = some _; kernel_rfl
theorem ze151 : zeroOf? Tryd.prog 151 = some [Value.int IntKind.i32 (0)] := by kernel_rfl
theorem ag152 : aggOf? Tryd.prog 152 = some (false, 1) := by kernel_rfl
theorem un152 : unOK Tryd.prog 152 (UK.i IntKind.i32) := by show Tryd.prog.underlying 152 = some _; kernel_rfl
theorem ze152 : zeroOf? Tryd.prog 152 = some [Value.int IntKind.i32 (0)] := by kernel_rfl
theorem ag153 : aggOf? Tryd.prog 153 = some (true, 11) := by kernel_rfl
theorem ze153 : zeroOf? Tryd.prog 153 = some [Value.int IntKind.u64 (0), Value.int IntKind.u64 (0), Value.int IntKind.u32 (0), Value.int IntKind.u8 (0), Value.int IntKind.u8 (0), Value.int IntKind.u8 (0), Value.int IntKind.u8 (0), Value.nilFunc, Value.pointer none, Value.int IntKind.i32 (0), Value.int IntKind.i32 (0)] := by kernel_rfl
theorem fo153_0 : fieldOff? Tryd.prog 153 0 = some 0 := by kernel_rfl
theorem fo153_1 : fieldOff? Tryd.prog 153 1 = some 1 := by kernel_rfl
theorem fo153_2 : fieldOff? Tryd.prog 153 2 = some 2 := by kernel_rfl
theorem fo153_3 : fieldOff? Tryd.prog 153 3 = some 3 := by kernel_rfl
theorem fo153_4 : fieldOff? Tryd.prog 153 4 = some 4 := by kernel_rfl
theorem fo153_5 : fieldOff? Tryd.prog 153 5 = some 5 := by kernel_rfl
theorem fo153_6 : fieldOff? Tryd.prog 153 6 = some 6 := by kernel_rfl
theorem fo153_7 : fieldOff? Tryd.prog 153 7 = some 7 := by kernel_rfl
theorem fo153_8 : fieldOff? Tryd.prog 153 8 = some 8 := by kernel_rfl
theorem fo153_9 : fieldOff? Tryd.prog 153 9 = some 9 := by kernel_rfl
theorem fo153_10 : fieldOff? Tryd.prog 153 10 = some 10 := by kernel_rfl
theorem pl153 : PlacesOK Tryd.prog 153 [(0, 1), (1, 1), (2, 1), (3, 1), (4, 1), (5, 1), (6, 1), (7, 1), (8, 1), (9, 1), (10, 1)] := ⟨_, (by kernel_rfl : Tryd.prog.underlying 153 = some (.struct (Tryd.prog.fieldsOf 153))), fun w => by kernel_rfl⟩
theorem ag154 : aggOf? Tryd.prog 154 = some (true, 11) := by kernel_rfl
theorem ze154 : zeroOf? Tryd.prog 154 = some [Value.int IntKind.u64 (0), Value.int IntKind.u64 (0), Value.int IntKind.u32 (0), Value.int IntKind.u8 (0), Value.int IntKind.u8 (0), Value.int IntKind.u8 (0), Value.int IntKind.u8 (0), Value.nilFunc, Value.pointer none, Value.int IntKind.i32 (0), Value.int IntKind.i32 (0)] := by kernel_rfl
theorem fo154_0 : fieldOff? Tryd.prog 154 0 = some 0 := by kernel_rfl
theorem fo154_1 : fieldOff? Tryd.prog 154 1 = some 1 := by kernel_rfl
theorem fo154_2 : fieldOff? Tryd.prog 154 2 = some 2 := by kernel_rfl
theorem fo154_3 : fieldOff? Tryd.prog 154 3 = some 3 := by kernel_rfl
theorem fo154_4 : fieldOff? Tryd.prog 154 4 = some 4 := by kernel_rfl
theorem fo154_5 : fieldOff? Tryd.prog 154 5 = some 5 := by kernel_rfl
theorem fo154_6 : fieldOff? Tryd.prog 154 6 = some 6 := by kernel_rfl
theorem fo154_7 : fieldOff? Tryd.prog 154 7 = some 7 := by kernel_rfl
theorem fo154_8 : fieldOff? Tryd.prog 154 8 = some 8 := by kernel_rfl
theorem fo154_9 : fieldOff? Tryd.prog 154 9 = some 9 := by kernel_rfl
theorem fo154_10 : fieldOff? Tryd.prog 154 10 = some 10 := by kernel_rfl
theorem pl154 : PlacesOK Tryd.prog 154 [(0, 1), (1, 1), (2, 1), (3, 1), (4, 1), (5, 1), (6, 1), (7, 1), (8, 1), (9, 1), (10, 1)] := ⟨_, (by kernel_rfl : Tryd.prog.underlying 154 = some (.struct (Tryd.prog.fieldsOf 154))), fun w => by kernel_rfl⟩
theorem ag155 : aggOf? Tryd.prog 155 = some (false, 1) := by kernel_rfl
theorem ze155 : zeroOf? Tryd.prog 155 = some [Value.pointer none] := by kernel_rfl
def fax : Fax := { el := [(22, 38, 12), (27, 3, 1), (42, 44, 6), (69, 9, 1), (88, 90, 2), (102, 108, 3), (103, 111, 3), (116, 5, 1)], ro := [(22, 38, 12, 96), (27, 3, 1, 8), (42, 44, 6, 64), (69, 9, 1, 16), (88, 90, 2, 16), (102, 108, 3, 6), (103, 111, 3, 12), (116, 5, 1, 1)], ag := [(0, false, 1), (1, false, 1), (2, false, 1), (3, false, 1), (4, false, 1), (5, false, 1), (6, false, 1), (7, true, 4), (8, true, 4), (9, false, 1), (10, false, 1), (11, false, 1), (12, false, 1), (13, true, 2), (14, true, 2), (15, false, 1), (16, false, 1), (17, false, 1), (18, true, 1), (19, true, 1), (20, false, 1), (21, false, 1), (22, false, 1), (23, false, 1), (24, false, 1), (25, false, 1), (26, false, 1), (27, false, 1), (28, false, 1), (29, false, 1), (30, false, 1), (31, false, 1), (32, false, 1), (33, false, 1), (34, false, 1), (35, true, 2), (36, true, 2), (37, true, 12), (38, true, 12), (39, false, 1), (40, true, 3), (41, true, 3), (42, false, 1), (43, true, 6), (44, true, 6), (45, true, 7), (46, true, 7), (47, false, 1), (48, false, 1), (49, false, 1), (50, false, 1), (51, false, 1), (52, false, 1), (53, true, 2), (54, true, 2), (55, false, 1), (56, false, 1), (57, false, 1), (58, false, 1), (59, false, 1), (60, false, 1), (61, false, 1), (62, false, 1), (63, true, 256), (64, true, 256), (65, false, 1), (66, false, 1), (67, false, 1), (68, false, 1), (69, false, 1), (70, false, 1), (71, false, 1), (72, true, 9), (73, false, 1), (74, false, 1), (75, false, 1), (76, false, 1), (77, false, 1), (78, true, 256), (79, false, 1), (80, false, 1), (81, false, 1), (82, false, 1), (83, false, 1), (84, false, 1), (85, false, 1), (86, false, 1), (87, false, 1), (88, false, 1), (89, true, 2), (90, true, 2), (91, false, 1), (92, false, 1), (93, false, 1), (94, false, 1), (95, false, 1), (96, false, 1), (97, false, 1), (98, true, 2), (99, true, 2), (100, true, 32), (101, false, 1), (102, false, 1), (103, false, 1), (104, true, 3), (105, true, 3), (106, false, 1), (107, true, 3), (108, true, 3), (109, false, 1), (110, true, 3), (111, true, 3), (112, false, 1), (113, true, 24), (114, false, 1), (115, false, 1), (116, false, 1), (117, false, 1), (118, false, 1), (119, false, 1), (120, false, 1), (121, false, 1), (122, false, 1), (123, false, 1), (124, false, 1), (125, false, 1), (126, false, 1), (127, false, 1), (128, true, 20), (129, true, 65), (130, false, 1), (131, false, 1), (132, false, 1), (133, true, 3), (134, true, 3), (135, false, 1), (136, false, 1), (137, false, 1), (138, false, 1), (139, true, 1), (140, true, 1), (141, true, 32), (142, true, 64), (143, true, 4), (144, true, 4), (145, true, 0), (146, true, 0), (147, true, 0), (148, false, 1), (149, false, 1), (150, false, 1), (151, false, 1), (152, false, 1), (153, true, 11), (154, true, 11), (155, false, 1)], fo := [(7, [(0, 0), (1, 1), (2, 2), (3, 3)]), (8, [(0, 0), (1, 1), (2, 2), (3, 3)]), (13, [(0, 0), (1, 1)]), (14, [(0, 0), (1, 1)]), (18, [(0, 0)]), (19, [(0, 0)]), (35, [(0, 0), (1, 1)]), (36, [(0, 0), (1, 1)]), (37, [(0, 0), (1, 1), (2, 2), (3, 3), (4, 4), (5, 5), (6, 6), (7, 7), (8, 8), (9, 10)]), (38, [(0, 0), (1, 1), (2, 2), (3, 3), (4, 4), (5, 5), (6, 6), (7, 7), (8, 8), (9, 10)]), (40, [(0, 0), (1, 1), (2, 2)]), (41, [(0, 0), (1, 1), (2, 2)]), (43, [(0, 0), (1, 1), (2, 4), (3, 5)]), (44, [(0, 0), (1, 1), (2, 4), (3, 5)]), (45, [(0, 0), (1, 1)]), (46, [(0, 0), (1, 1)]), (53, [(0, 0), (1, 1)]), (54, [(0, 0), (1, 1)]), (89, [(0, 0), (1, 1)]), (90, [(0, 0), (1, 1)]), (98, [(0, 0), (1, 1)]), (99, [(0, 0), (1, 1)]), (104, [(0, 0), (1, 1), (2, 2)]), (105, [(0, 0), (1, 1), (2, 2)]), (107, [(0, 0), (1, 1), (2, 2)]), (108, [(0, 0), (1, 1), (2, 2)]), (110, [(0, 0), (1, 1), (2, 2)]), (111, [(0, 0), (1, 1), (2, 2)]), (133, [(0, 0), (1, 1), (2, 2)]), (134, [(0, 0), (1, 1), (2, 2)]), (139, [(0, 0)]), (140, [(0, 0)]), (143, [(0, 0), (1, 1), (2, 2), (3, 3)]), (144, [(0, 0), (1, 1), (2, 2), (3, 3)]), (146, []), (147, []), (153, [(0, 0), (1, 1), (2, 2), (3, 3), (4, 4), (5, 5), (6, 6), (7, 7), (8, 8), (9, 9), (10, 10)]), (154, [(0, 0), (1, 1), (2, 2), (3, 3), (4, 4), (5, 5), (6, 6), (7, 7), (8, 8), (9, 9), (10, 10)])], un := [(2, .i .i64), (3, .i .i64), (4, .b), (5, .i .u8), (6, .i .u8), (9, .s), (10, .s), (11, .s), (12, .i .u64), (21, .i .i32), (24, .i .i64), (82, .i .u64), (91, .i .u32), (97, .i .u64), (106, .i .u16), (119, .i .i64), (148, .i .u8), (149, .i .u8), (151, .i .i32), (152, .i .i32)], ze := [(1, [Value.nilFunc], [.v (Value.nilFunc)]), (2, [Value.int IntKind.i64 (0)], [.v (Value.int IntKind.i64 (0))]), (3, [Value.int IntKind.i64 (0)], [.v (Value.int IntKind.i64 (0))]), (4, [Value.bool false], [.v (Value.bool false)]), (5, [Value.int IntKind.u8 (0)], [.v (Value.int IntKind.u8 (0))]), (6, [Value.int IntKind.u8 (0)], [.v (Value.int IntKind.u8 (0))]), (7, [Value.int IntKind.i64 (0), Value.int IntKind.i64 (0), Value.bool false, Value.int IntKind.u8 (0)], [.v (Value.int IntKind.i64 (0)), .v (Value.int IntKind.i64 (0)), .v (Value.bool false), .v (Value.int IntKind.u8 (0))]), (8, [Value.int IntKind.i64 (0), Value.int IntKind.i64 (0), Value.bool false, Value.int IntKind.u8 (0)], [.v (Value.int IntKind.i64 (0)), .v (Value.int IntKind.i64 (0)), .v (Value.bool false), .v (Value.int IntKind.u8 (0))]), (9, [Value.string { data := { toList := [] } }], [.v (Value.string { data := { toList := [] } })]), (10, [Value.string { data := { toList := [] } }], [.v (Value.string { data := { toList := [] } })]), (11, [Value.string { data := { toList := [] } }], [.v (Value.string { data := { toList := [] } })]), (12, [Value.int IntKind.u64 (0)], [.v (Value.int IntKind.u64 (0))]), (13, [Value.string { data := { toList := [] } }, Value.int IntKind.u64 (0)], [.v (Value.string { data := { toList := [] } }), .v (Value.int IntKind.u64 (0))]), (14, [Value.string { data := { toList := [] } }, Value.int IntKind.u64 (0)], [.v (Value.string { data := { toList := [] } }), .v (Value.int IntKind.u64 (0))]), (15, [Value.pointer none], [.v (Value.pointer none)]), (16, [Value.pointer none], [.v (Value.pointer none)]), (17, [Value.pointer none], [.v (Value.pointer none)]), (18, [Value.pointer none], [.v (Value.pointer none)]), (19, [Value.pointer none], [.v (Value.pointer none)]), (20, [Value.nilIface], [.v (Value.nilIface)]), (21, [Value.int IntKind.i32 (0)], [.v (Value.int IntKind.i32 (0))]), (22, [Value.slice none 0 0], [.sl 12 []]), (23, [Value.nilFunc], [.v (Value.nilFunc)]), (24, [Value.int IntKind.i64 (0)], [.v (Value.int IntKind.i64 (0))]), (26, [Value.nilFunc], [.v (Value.nilFunc)]), (27, [Value.slice none 0 0], [.sl 1 []]), (29, [Value.nilFunc], [.v (Value.nilFunc)]), (30, [Value.nilFunc], [.v (Value.nilFunc)]), (31, [Value.nilFunc], [.v (Value.nilFunc)]), (32, [Value.nilFunc], [.v (Value.nilFunc)]), (33, [Value.nilFunc], [.v (Value.nilFunc)]), (34, [Value.nilFunc], [.v (Value.nilFunc)]), (35, [Value.int IntKind.i64 (0), Value.int IntKind.i64 (0)], [.v (Value.int IntKind.i64 (0)), .v (Value.int IntKind.i64 (0))]), (36, [Value.int IntKind.i64 (0), Value.int IntKind.i64 (0)], [.v (Value.int IntKind.i64 (0)), .v (Value.int IntKind.i64 (0))]), (37, [Value.int IntKind.i64 (0), Value.int IntKind.i64 (0), Value.int IntKind.i64 (0), Value.int IntKind.i64 (0), Value.int IntKind.i64 (0), Value.int IntKind.i64 (0), Value.int IntKind.i64 (0), Value.int IntKind.i64 (0), Value.int IntKind.i64 (0), Value.int IntKind.i64 (0), Value.int IntKind.i64 (0), Value.int IntKind.i64 (0)], [.v (Value.int IntKind.i64 (0)), .v (Value.int IntKind.i64 (0)), .v (Value.int IntKind.i64 (0)), .v (Value.int IntKind.i64 (0)), .v (Value.int IntKind.i64 (0)), .v (Value.int IntKind.i64 (0)), .v (Value.int IntKind.i64 (0)), .v (Value.int IntKind.i64 (0)), .v (Value.int IntKind.i64 (0)), .v (Value.int IntKind.i64 (0)), .v (Value.int IntKind.i64 (0)), .v (Value.int IntKind.i64 (0))]), (38, [Value.int IntKind.i64 (0), Value.int IntKind.i64 (0), Value.int IntKind.i64 (0), Value.int IntKind.i64 (0), Value.int IntKind.i64 (0), Value.int IntKind.i64 (0), Value.int IntKind.i64 (0), Value.int IntKind.i64 (0), Value.int IntKind.i64 (0), Value.int IntKind.i64 (0), Value.int IntKind.i64 (0), Value.int IntKind.i64 (0)], [.v (Value.int IntKind.i64 (0)), .v (Value.int IntKind.i64 (0)), .v (Value.int IntKind.i64 (0)), .v (Value.int IntKind.i64 (0)), .v (Value.int IntKind.i64 (0)), .v (Value.int IntKind.i64 (0)), .v (Value.int IntKind.i64 (0)), .v (Value.int IntKind.i64 (0)), .v (Value.int IntKind.i64 (0)), .v (Value.int IntKind.i64 (0)), .v (Value.int IntKind.i64 (0)), .v (Value.int IntKind.i64 (0))]), (39, [Value.nilFunc], [.v (Value.nilFunc)]), (40, [Value.int IntKind.i64 (0), Value.int IntKind.i64 (0), Value.int IntKind.u8 (0)], [.v (Value.int IntKind.i64 (0)), .v (Value.int IntKind.i64 (0)), .v (Value.int IntKind.u8 (0))]), (41, [Value.int IntKind.i64 (0), Value.int IntKind.i64 (0), Value.int IntKind.u8 (0)], [.v (Value.int IntKind.i64 (0)), .v (Value.int IntKind.i64 (0)), .v (Value.int IntKind.u8 (0))]), (42, [Value.slice none 0 0], [.sl 6 []]), (43, [Value.int IntKind.u8 (0), Value.int IntKind.i64 (0), Value.int IntKind.i64 (0), Value.int IntKind.u8 (0), Value.slice none 0 0, Value.int IntKind.i64 (0)], [.v (Value.int IntKind.u8 (0)), .v (Value.int IntKind.i64 (0)), .v (Value.int IntKind.i64 (0)), .v (Value.int IntKind.u8 (0)), .sl 6 [], .v (Value.int IntKind.i64 (0))]), (44, [Value.int IntKind.u8 (0), Value.int IntKind.i64 (0), Value.int IntKind.i64 (0), Value.int IntKind.u8 (0), Value.slice none 0 0, Value.int IntKind.i64 (0)], [.v (Value.int IntKind.u8 (0)), .v (Value.int IntKind.i64 (0)), .v (Value.int IntKind.i64 (0)), .v (Value.int IntKind.u8 (0)), .sl 6 [], .v (Value.int IntKind.i64 (0))]), (45, [Value.string { data := { toList := [] } }, Value.int IntKind.u8 (0), Value.int IntKind.i64 (0), Value.int IntKind.i64 (0), Value.int IntKind.u8 (0), Value.slice none 0 0, Value.int IntKind.i64 (0)], [.v (Value.string { data := { toList := [] } }), .v (Value.int IntKind.u8 (0)), .v (Value.int IntKind.i64 (0)), .v (Value.int IntKind.i64 (0)), .v (Value.int IntKind.u8 (0)), .sl 6 [], .v (Value.int IntKind.i64 (0))]), (46, [Value.string { data := { toList := [] } }, Value.int IntKind.u8 (0), Value.int IntKind.i64 (0), Value.int IntKind.i64 (0), Value.int IntKind.u8 (0), Value.slice none 0 0, Value.int IntKind.i64 (0)], [.v (Value.string { data := { toList := [] } }), .v (Value.int IntKind.u8 (0)), .v (Value.int IntKind.i64 (0)), .v (Value.int IntKind.i64 (0)), .v (Value.int IntKind.u8 (0)), .sl 6 [], .v (Value.int IntKind.i64 (0))]), (48, [Value.nilFunc], [.v (Value.nilFunc)]), (49, [Value.nilFunc], [.v (Value.nilFunc)]), (50, [Value.nilFunc], [.v (Value.nilFunc)]), (51, [Value.nilFunc], [.v (Value.nilFunc)]), (52, [Value.pointer none], [.v (Value.pointer none)]), (53, [Value.string { data := { toList := [] } }, Value.bool false], [.v (Value.string { data := { toList := [] } }), .v (Value.bool false)]), (54, [Value.string { data := { toList := [] } }, Value.bool false], [.v (Value.string { data := { toList := [] } }), .v (Value.bool false)]), (55, [Value.nilFunc], [.v (Value.nilFunc)]), (56, [Value.nilFunc], [.v (Value.nilFunc)]), (57, [Value.nilFunc], [.v (Value.nilFunc)]), (58, [Value.nilFunc], [.v (Value.nilFunc)]), (59, [Value.nilFunc], [.v (Value.nilFunc)]), (60, [Value.nilFunc], [.v (Value.nilFunc)]), (61, [Value.nilFunc], [.v (Value.nilFunc)]), (62, [Value.nilFunc], [.v (Value.nilFunc)]), (66, [Value.nilFunc], [.v (Value.nilFunc)]), (67, [Value.nilFunc], [.v (Value.nilFunc)]), (68, [Value.pointer none], [.v (Value.pointer none)]), (69, [Value.slice none 0 0], [.sl 1 []]), (70, [Value.nilFunc], [.v (Value.nilFunc)]), (71, [Value.nilFunc], [.v (Value.nilFunc)]), (72, [Value.int IntKind.i64 (0), Value.int IntKind.i64 (0), Value.int IntKind.i64 (0), Value.int IntKind.i64 (0), Value.int IntKind.i64 (0), Value.int IntKind.i64 (0), Value.int IntKind.i64 (0), Value.int IntKind.i64 (0), Value.int IntKind.i64 (0)], [.v (Value.int IntKind.i64 (0)), .v (Value.int IntKind.i64 (0)), .v (Value.int IntKind.i64 (0)), .v (Value.int IntKind.i64 (0)), .v (Value.int IntKind.i64 (0)), .v (Value.int IntKind.i64 (0)), .v (Value.int IntKind.i64 (0)), .v (Value.int IntKind.i64 (0)), .v (Value.int IntKind.i64 (0))]), (73, [Value.nilFunc], [.v (Value.nilFunc)]), (74, [Value.nilFunc], [.v (Value.nilFunc)]), (76, [Value.nilFunc], [.v (Value.nilFunc)]), (77, [Value.nilFunc], [.v (Value.nilFunc)]), (79, [Value.nilFunc], [.v (Value.nilFunc)]), (80, [Value.nilFunc], [.v (Value.nilFunc)]), (81, [Value.nilFunc], [.v (Value.nilFunc)]), (82, [Value.int IntKind.u64 (0)], [.v (Value.int IntKind.u64 (0))]), (83, [Value.nilIface], [.v (Value.nilIface)]), (84, [Value.nilIface], [.v (Value.nilIface)]), (86, [Value.nilFunc], [.v (Value.nilFunc)]), (87, [Value.nilFunc], [.v (Value.nilFunc)]), (88, [Value.slice none 0 0], [.sl 2 []]), (89, [Value.int IntKind.i64 (0), Value.int IntKind.i64 (0)], [.v (Value.int IntKind.i64 (0)), .v (Value.int IntKind.i64 (0))]), (90, [Value.int IntKind.i64 (0), Value.int IntKind.i64 (0)], [.v (Value.int IntKind.i64 (0)), .v (Value.int IntKind.i64 (0))]), (91, [Value.int IntKind.u32 (0)], [.v (Value.int IntKind.u32 (0))]), (92, [Value.nilFunc], [.v (Value.nilFunc)]), (93, [Value.pointer none], [.v (Value.pointer none)]), (94, [Value.nilFunc], [.v (Value.nilFunc)]), (95, [Value.nilFunc], [.v (Value.nilFunc)]), (96, [Value.nilFunc], [.v (Value.nilFunc)]), (97, [Value.int IntKind.u64 (0)], [.v (Value.int IntKind.u64 (0))]), (98, [Value.int IntKind.u8 (0), Value.int IntKind.u8 (0)], [.v (Value.int IntKind.u8 (0)), .v (Value.int IntKind.u8 (0))]), (99, [Value.int IntKind.u8 (0), Value.int IntKind.u8 (0)], [.v (Value.int IntKind.u8 (0)), .v (Value.int IntKind.u8 (0))]), (100, [Value.int IntKind.u8 (0), Value.int IntKind.u8 (0), Value.int IntKind.u8 (0), Value.int IntKind.u8 (0), Value.int IntKind.u8 (0), Value.int IntKind.u8 (0), Value.int IntKind.u8 (0), Value.int IntKind.u8 (0), Value.int IntKind.u8 (0), Value.int IntKind.u8 (0), Value.int IntKind.u8 (0), Value.int IntKind.u8 (0), Value.int IntKind.u8 (0), Value.int IntKind.u8 (0), Value.int IntKind.u8 (0), Value.int IntKind.u8 (0), Value.int IntKind.u8 (0), Value.int IntKind.u8 (0), Value.int IntKind.u8 (0), Value.int IntKind.u8 (0), Value.int IntKind.u8 (0), Value.int IntKind.u8 (0), Value.int IntKind.u8 (0), Value.int IntKind.u8 (0), Value.int IntKind.u8 (0), Value.int IntKind.u8 (0), Value.int IntKind.u8 (0), Value.int IntKind.u8 (0), Value.int IntKind.u8 (0), Value.int IntKind.u8 (0), Value.int IntKind.u8 (0), Value.int IntKind.u8 (0)], [.v (Value.int IntKind.u8 (0)), .v (Value.int IntKind.u8 (0)), .v (Value.int IntKind.u8 (0)), .v (Value.int IntKind.u8 (0)), .v (Value.int IntKind.u8 (0)), .v (Value.int IntKind.u8 (0)), .v (Value.int IntKind.u8 (0)), .v (Value.int IntKind.u8 (0)), .v (Value.int IntKind.u8 (0)), .v (Value.int IntKind.u8 (0)), .v (Value.int IntKind.u8 (0)), .v (Value.int IntKind.u8 (0)), .v (Value.int IntKind.u8 (0)), .v (Value.int IntKind.u8 (0)), .v (Value.int IntKind.u8 (0)), .v (Value.int IntKind.u8 (0)), .v (Value.int IntKind.u8 (0)), .v (Value.int IntKind.u8 (0)), .v (Value.int IntKind.u8 (0)), .v (Value.int IntKind.u8 (0)), .v (Value.int IntKind.u8 (0)), .v (Value.int IntKind.u8 (0)), .v (Value.int IntKind.u8 (0)), .v (Value.int IntKind.u8 (0)), .v (Value.int IntKind.u8 (0)), .v (Value.int IntKind.u8 (0)), .v (Value.int IntKind.u8 (0)), .v (Value.int IntKind.u8 (0)), .v (Value.int IntKind.u8 (0)), .v (Value.int IntKind.u8 (0)), .v (Value.int IntKind.u8 (0)), .v (Value.int IntKind.u8 (0))]), (101, [Value.nilFunc], [.v (Value.nilFunc)]), (102, [Value.slice none 0 0], [.sl 3 []]), (103, [Value.slice none 0 0], [.sl 3 []]), (104, [Value.slice none 0 0, Value.slice none 0 0, Value.int IntKind.i64 (0)], [.sl 3 [], .sl 3 [], .v (Value.int IntKind.i64 (0))]), (105, [Value.slice none 0 0, Value.slice none 0 0, Value.int IntKind.i64 (0)], [.sl 3 [], .sl 3 [], .v (Value.int IntKind.i64 (0))]), (106, [Value.int IntKind.u16 (0)], [.v (Value.int IntKind.u16 (0))]), (107, [Value.int IntKind.u16 (0), Value.int IntKind.u16 (0), Value.int IntKind.u16 (0)], [.v (Value.int IntKind.u16 (0)), .v (Value.int IntKind.u16 (0)), .v (Value.int IntKind.u16 (0))]), (108, [Value.int IntKind.u16 (0), Value.int IntKind.u16 (0), Value.int IntKind.u16 (0)], [.v (Value.int IntKind.u16 (0)), .v (Value.int IntKind.u16 (0)), .v (Value.int IntKind.u16 (0))]), (109, [Value.nilFunc], [.v (Value.nilFunc)]), (110, [Value.int IntKind.u32 (0), Value.int IntKind.u32 (0), Value.int IntKind.u32 (0)], [.v (Value.int IntKind.u32 (0)), .v (Value.int IntKind.u32 (0)), .v (Value.int IntKind.u32 (0))]), (111, [Value.int IntKind.u32 (0), Value.int IntKind.u32 (0), Value.int IntKind.u32 (0)], [.v (Value.int IntKind.u32 (0)), .v (Value.int IntKind.u32 (0)), .v (Value.int IntKind.u32 (0))]), (112, [Value.nilFunc], [.v (Value.nilFunc)]), (113, [Value.int IntKind.u8 (0), Value.int IntKind.u8 (0), Value.int IntKind.u8 (0), Value.int IntKind.u8 (0), Value.int IntKind.u8 (0), Value.int IntKind.u8 (0), Value.int IntKind.u8 (0), Value.int IntKind.u8 (0), Value.int IntKind.u8 (0), Value.int IntKind.u8 (0), Value.int IntKind.u8 (0), Value.int IntKind.u8 (0), Value.int IntKind.u8 (0), Value.int IntKind.u8 (0), Value.int IntKind.u8 (0), Value.int IntKind.u8 (0), Value.int IntKind.u8 (0), Value.int IntKind.u8 (0), Value.int IntKind.u8 (0), Value.int IntKind.u8 (0), Value.int IntKind.u8 (0), Value.int IntKind.u8 (0), Value.int IntKind.u8 (0), Value.int IntKind.u8 (0)], [.v (Value.int IntKind.u8 (0)), .v (Value.int IntKind.u8 (0)), .v (Value.int IntKind.u8 (0)), .v (Value.int IntKind.u8 (0)), .v (Value.int IntKind.u8 (0)), .v (Value.int IntKind.u8 (0)), .v (Value.int IntKind.u8 (0)), .v (Value.int IntKind.u8 (0)), .v (Value.int IntKind.u8 (0)), .v (Value.int IntKind.u8 (0)), .v (Value.int IntKind.u8 (0)), .v (Value.int IntKind.u8 (0)), .v (Value.int IntKind.u8 (0)), .v (Value.int IntKind.u8 (0)), .v (Value.int IntKind.u8 (0)), .v (Value.int IntKind.u8 (0)), .v (Value.int IntKind.u8 (0)), .v (Value.int IntKind.u8 (0)), .v (Value.int IntKind.u8 (0)), .v (Value.int IntKind.u8 (0)), .v (Value.int IntKind.u8 (0)), .v (Value.int IntKind.u8 (0)), .v (Value.int IntKind.u8 (0)), .v (Value.int IntKind.u8 (0))]), (114, [Value.nilFunc], [.v (Value.nilFunc)]), (115, [Value.nilFunc], [.v (Value.nilFunc)]), (116, [Value.slice none 0 0], [.sl 1 []]), (118, [Value.nilFunc], [.v (Value.nilFunc)]), (119, [Value.int IntKind.i64 (0)], [.v (Value.int IntKind.i64 (0))]), (120, [Value.nilFunc], [.v (Value.nilFunc)]), (121, [Value.nilFunc], [.v (Value.nilFunc)]), (122, [Value.pointer none], [.v (Value.pointer none)]), (123, [Value.nilFunc], [.v (Value.nilFunc)]), (124, [Value.nilFunc], [.v (Value.nilFunc)]), (125, [Value.pointer none], [.v (Value.pointer none)]), (126, [Value.pointer none], [.v (Value.pointer none)]), (127, [Value.nilFunc], [.v (Value.nilFunc)]), (128, [Value.int IntKind.u64 (0), Value.int IntKind.u64 (0), Value.int IntKind.u64 (0), Value.int IntKind.u64 (0), Value.int IntKind.u64 (0), Value.int IntKind.u64 (0), Value.int IntKind.u64 (0), Value.int IntKind.u64 (0), Value.int IntKind.u64 (0), Value.int IntKind.u64 (0), Value.int IntKind.u64 (0), Value.int IntKind.u64 (0), Value.int IntKind.u64 (0), Value.int IntKind.u64 (0), Value.int IntKind.u64 (0), Value.int IntKind.u64 (0), Value.int IntKind.u64 (0), Value.int IntKind.u64 (0), Value.int IntKind.u64 (0), Value.int IntKind.u64 (0)], [.v (Value.int IntKind.u64 (0)), .v (Value.int IntKind.u64 (0)), .v (Value.int IntKind.u64 (0)), .v (Value.int IntKind.u64 (0)), .v (Value.int IntKind.u64 (0)), .v (Value.int IntKind.u64 (0)), .v (Value.int IntKind.u64 (0)), .v (Value.int IntKind.u64 (0)), .v (Value.int IntKind.u64 (0)), .v (Value.int IntKind.u64 (0)), .v (Value.int IntKind.u64 (0)), .v (Value.int IntKind.u64 (0)), .v (Value.int IntKind.u64 (0)), .v (Value.int IntKind.u64 (0)), .v (Value.int IntKind.u64 (0)), .v (Value.int IntKind.u64 (0)), .v (Value.int IntKind.u64 (0)), .v (Value.int IntKind.u64 (0)), .v (Value.int IntKind.u64 (0)), .v (Value.int IntKind.u64 (0))]), (130, [Value.nilFunc], [.v (Value.nilFunc)]), (131, [Value.nilFunc], [.v (Value.nilFunc)]), (132, [Value.nilFunc], [.v (Value.nilFunc)]), (133, [Value.string { data := { toList := [] } }, Value.string { data := { toList := [] } }, Value.nilIface], [.v (Value.string { data := { toList := [] } }), .v (Value.string { data := { toList := [] } }), .v (Value.nilIface)]), (134, [Value.string { data := { toList := [] } }, Value.string { data := { toList := [] } }, Value.nilIface], [.v (Value.string { data := { toList := [] } }), .v (Value.string { data := { toList := [] } }), .v (Value.nilIface)]), (135, [Value.nilFunc], [.v (Value.nilFunc)]), (136, [Value.nilFunc], [.v (Value.nilFunc)]), (137, [Value.pointer none], [.v (Value.pointer none)]), (138, [Value.pointer none], [.v (Value.pointer none)]), (139, [Value.string { data := { toList := [] } }], [.v (Value.string { data := { toList := [] } })]), (140, [Value.string { data := { toList := [] } }], [.v (Value.string { data := { toList := [] } })]), (141, [Value.int IntKind.u8 (0), Value.int IntKind.u8 (0), Value.int IntKind.u8 (0), Value.int IntKind.u8 (0), Value.int IntKind.u8 (0), Value.int IntKind.u8 (0), Value.int IntKind.u8 (0), Value.int IntKind.u8 (0), Value.int IntKind.u8 (0), Value.int IntKind.u8 (0), Value.int IntKind.u8 (0), Value.int IntKind.u8 (0), Value.int IntKind.u8 (0), Value.int IntKind.u8 (0), Value.int IntKind.u8 (0), Value.int IntKind.u8 (0), Value.int IntKind.u8 (0), Value.int IntKind.u8 (0), Value.int IntKind.u8 (0), Value.int IntKind.u8 (0), Value.int IntKind.u8 (0), Value.int IntKind.u8 (0), Value.int IntKind.u8 (0), Value.int IntKind.u8 (0), Value.int IntKind.u8 (0), Value.int IntKind.u8 (0), Value.int IntKind.u8 (0), Value.int IntKind.u8 (0), Value.int IntKind.u8 (0), Value.int IntKind.u8 (0), Value.int IntKind.u8 (0), Value.int IntKind.u8 (0)], [.v (Value.int IntKind.u8 (0)), .v (Value.int IntKind.u8 (0)), .v (Value.int IntKind.u8 (0)), .v (Value.int IntKind.u8 (0)), .v (Value.int IntKind.u8 (0)), .v (Value.int IntKind.u8 (0)), .v (Value.int IntKind.u8 (0)), .v (Value.int IntKind.u8 (0)), .v (Value.int IntKind.u8 (0)), .v (Value.int IntKind.u8 (0)), .v (Value.int IntKind.u8 (0)), .v (Value.int IntKind.u8 (0)), .v (Value.int IntKind.u8 (0)), .v (Value.int IntKind.u8 (0)), .v (Value.int IntKind.u8 (0)), .v (Value.int IntKind.u8 (0)), .v (Value.int IntKind.u8 (0)), .v (Value.int IntKind.u8 (0)), .v (Value.int IntKind.u8 (0)), .v (Value.int IntKind.u8 (0)), .v (Value.int IntKind.u8 (0)), .v (Value.int IntKind.u8 (0)), .v (Value.int IntKind.u8 (0)), .v (Value.int IntKind.u8 (0)), .v (Value.int IntKind.u8 (0)), .v (Value.int IntKind.u8 (0)), .v (Value.int IntKind.u8 (0)), .v (Value.int IntKind.u8 (0)), .v (Value.int IntKind.u8 (0)), .v (Value.int IntKind.u8 (0)), .v (Value.int IntKind.u8 (0)), .v (Value.int IntKind.u8 (0))]), (143, [Value.pointer none, Value.pointer none, Value.pointer none, Value.string { data := { toList := [] } }], [.v (Value.pointer none), .v (Value.pointer none), .v (Value.pointer none), .v (Value.string { data := { toList := [] } })]), (144, [Value.pointer none, Value.pointer none, Value.pointer none, Value.string { data := { toList := [] } }], [.v (Value.pointer none), .v (Value.pointer none), .v (Value.pointer none), .v (Value.string { data := { toList := [] } })]), (145, [], []), (146, [], []), (147, [], []), (148, [Value.int IntKind.u8 (0)], [.v (Value.int IntKind.u8 (0))]), (149, [Value.int IntKind.u8 (0)], [.v (Value.int IntKind.u8 (0))]), (150, [Value.nilFunc], [.v (Value.nilFunc)]), (151, [Value.int IntKind.i32 (0)], [.v (Value.int IntKind.i32 (0))]), (152, [Value.int IntKind.i32 (0)], [.v (Value.int IntKind.i32 (0))]), (153, [Value.int IntKind.u64 (0), Value.int IntKind.u64 (0), Value.int IntKind.u32 (0), Value.int IntKind.u8 (0), Value.int IntKind.u8 (0), Value.int IntKind.u8 (0), Value.int IntKind.u8 (0), Value.nilFunc, Value.pointer none, Value.int IntKind.i32 (0), Value.int IntKind.i32 (0)], [.v (Value.int IntKind.u64 (0)), .v (Value.int IntKind.u64 (0)), .v (Value.int IntKind.u32 (0)), .v (Value.int IntKind.u8 (0)), .v (Value.int IntKind.u8 (0)), .v (Value.int IntKind.u8 (0)), .v (Value.int IntKind.u8 (0)), .v (Value.nilFunc), .v (Value.pointer none), .v (Value.int IntKind.i32 (0)), .v (Value.int IntKind.i32 (0))]), (154, [Value.int IntKind.u64 (0), Value.int IntKind.u64 (0), Value.int IntKind.u32 (0), Value.int IntKind.u8 (0), Value.int IntKind.u8 (0), Value.int IntKind.u8 (0), Value.int IntKind.u8 (0), Value.nilFunc, Value.pointer none, Value.int IntKind.i32 (0), Value.int IntKind.i32 (0)], [.v (Value.int IntKind.u64 (0)), .v (Value.int IntKind.u64 (0)), .v (Value.int IntKind.u32 (0)), .v (Value.int IntKind.u8 (0)), .v (Value.int IntKind.u8 (0)), .v (Value.int IntKind.u8 (0)), .v (Value.int IntKind.u8 (0)), .v (Value.nilFunc), .v (Value.pointer none), .v (Value.int IntKind.i32 (0)), .v (Value.int IntKind.i32 (0))]), (155, [Value.pointer none], [.v (Value.pointer none)])], pl := [(7, [(0, 1), (1, 1), (2, 1), (3, 1)]), (8, [(0, 1), (1, 1), (2, 1), (3, 1)]), (13, [(0, 1), (1, 1)]), (14, [(0, 1), (1, 1)]), (18, [(0, 1)]), (19, [(0, 1)]), (35, [(0, 1), (1, 1)]), (36, [(0, 1), (1, 1)]), (37, [(0, 1), (1, 1), (2, 1), (3, 1), (4, 1), (5, 1), (6, 1), (7, 1), (8, 2), (10, 2)]), (38, [(0, 1), (1, 1), (2, 1), (3, 1), (4, 1), (5, 1), (6, 1), (7, 1), (8, 2), (10, 2)]), (40, [(0, 1), (1, 1), (2, 1)]), (41, [(0, 1), (1, 1), (2, 1)]), (43, [(0, 1), (1, 3), (4, 1), (5, 1)]), (44, [(0, 1), (1, 3), (4, 1), (5, 1)]), (45, [(0, 1), (1, 6)]), (46, [(0, 1), (1, 6)]), (53, [(0, 1), (1, 1)]), (54, [(0, 1), (1, 1)]), (89, [(0, 1), (1, 1)]), (90, [(0, 1), (1, 1)]), (98, [(0, 1), (1, 1)]), (99, [(0, 1), (1, 1)]), (104, [(0, 1), (1, 1), (2, 1)]), (105, [(0, 1), (1, 1), (2, 1)]), (107, [(0, 1), (1, 1), (2, 1)]), (108, [(0, 1), (1, 1), (2, 1)]), (110, [(0, 1), (1, 1), (2, 1)]), (111, [(0, 1), (1, 1), (2, 1)]), (133, [(0, 1), (1, 1), (2, 1)]), (134, [(0, 1), (1, 1), (2, 1)]), (139, [(0, 1)]), (140, [(0, 1)]), (143, [(0, 1), (1, 1), (2, 1), (3, 1)]), (144, [(0, 1), (1, 1), (2, 1), (3, 1)]), (146, [(0, 0)]), (147, [(0, 0)]), (153, [(0, 1), (1, 1), (2, 1), (3, 1), (4, 1), (5, 1), (6, 1), (7, 1), (8, 1), (9, 1), (10, 1)]), (154, [(0, 1), (1, 1), (2, 1), (3, 1), (4, 1), (5, 1), (6, 1), (7, 1), (8, 1), (9, 1), (10, 1)])], ar := [(63, 256, 1), (64, 256, 1), (72, 9, 1), (78, 256, 1), (100, 16, 2), (113, 24, 1), (128, 20, 1), (129, 65, 1), (141, 32, 1), (142, 64, 1), (145, 0, 1)], mks := [(27, 3, Value.int IntKind.i64 (0)), (69, 9, Value.string { data := { toList := [] } }), (116, 5, Value.int IntKind.u8 (0))], mt := [] }
theorem fax_ok : FaxOK Tryd.prog fax := FaxOK.mk' ⟨el22, el27, el42, el69, el88, el102, el103, el116, trivial⟩ ⟨ro22, ro27, ro42, ro69, ro88, ro102, ro103, ro116, trivial⟩ ⟨ag0, ag1, ag2, ag3, ag4, ag5, ag6, ag7, ag8, ag9, ag10, ag11, ag12, ag13, ag14, ag15, ag16, ag17, ag18, ag19, ag20, ag21, ag22, ag23, ag24, ag25, ag26, ag27, ag28, ag29, ag30, ag31, ag32, ag33, ag34, ag35, ag36, ag37, ag38, ag39, ag40, ag41, ag42, ag43, ag44, ag45, ag46, ag47, ag48, ag49, ag50, ag51, ag52, ag53, ag54, ag55, ag56, ag57, ag58, ag59, ag60, ag61, ag62, ag63, ag64, ag65, ag66, ag67, ag68, ag69, ag70, ag71, ag72, ag73, ag74, ag75, ag76, ag77, ag78, ag79, ag80, ag81, ag82, ag83, ag84, ag85, ag86, ag87, ag88, ag89, ag90, ag91, ag92, ag93, ag94, ag95, ag96, ag97, ag98, ag99, ag100, ag101, ag102, ag103, ag104, ag105, ag106, ag107, ag108, ag109, ag110, ag111, ag112, ag113, ag114, ag115, ag116, ag117, ag118, ag119, ag120, ag121, ag122, ag123, ag124, ag125, ag126, ag127, ag128, ag129, ag130, ag131, ag132, ag133, ag134, ag135, ag136, ag137, ag138, ag139, ag140, ag141, ag142, ag143, ag144, ag145, ag146, ag147, ag148, ag149, ag150, ag151, ag152, ag153, ag154, ag155, trivial⟩ ⟨⟨fo7_0, fo7_1, fo7_2, fo7_3, trivial⟩, ⟨fo8_0, fo8_1, fo8_2, fo8_3, trivial⟩, ⟨fo13_0, fo13_1, trivial⟩, ⟨fo14_0, fo14_1, trivial⟩, ⟨fo18_0, trivial⟩, ⟨fo19_0, trivial⟩, ⟨fo35_0, fo35_1, trivial⟩, ⟨fo36_0, fo36_1, trivial⟩, ⟨fo37_0, fo37_1, fo37_2, fo37_3, fo37_4, fo37_5, fo37_6, fo37_7, fo37_8, fo37_9, trivial⟩, ⟨fo38_0, fo38_1, fo38_2, fo38_3, fo38_4, fo38_5, fo38_6, fo38_7, fo38_8, fo38_9, trivial⟩, ⟨fo40_0, fo40_1, fo40_2, trivial⟩, ⟨fo41_0, fo41_1, fo41_2, trivial⟩, ⟨fo43_0, fo43_1, fo43_2, fo43_3, trivial⟩, ⟨fo44_0, fo44_1, fo44_2, fo44_3, trivial⟩, ⟨fo45_0, fo45_1, trivial⟩, ⟨fo46_0, fo46_1, trivial⟩, ⟨fo53_0, fo53_1, trivial⟩, ⟨fo54_0, fo54_1, trivial⟩, ⟨fo89_0, fo89_1, trivial⟩, ⟨fo90_0, fo90_1, trivial⟩, ⟨fo98_0, fo98_1, trivial⟩, ⟨fo99_0, fo99_1, trivial⟩, ⟨fo104_0, fo104_1, fo104_2, trivial⟩, ⟨fo105_0, fo105_1, fo105_2, trivial⟩, ⟨fo107_0, fo107_1, fo107_2, trivial⟩, ⟨fo108_0, fo108_1, fo108_2, trivial⟩, ⟨fo110_0, fo110_1, fo110_2, trivial⟩, ⟨fo111_0, fo111_1, fo111_2, trivial⟩, ⟨fo133_0, fo133_1, fo133_2, trivial⟩, ⟨fo134_0, fo134_1, fo134_2, trivial⟩, ⟨fo139_0, trivial⟩, ⟨fo140_0, trivial⟩, ⟨fo143_0, fo143_1, fo143_2, fo143_3, trivial⟩, ⟨fo144_0, fo144_1, fo144_2, fo144_3, trivial⟩, trivial, trivial, ⟨fo153_0, fo153_1, fo153_2, fo153_3, fo153_4, fo153_5, fo153_6, fo153_7, fo153_8, fo153_9, fo153_10, trivial⟩, ⟨fo154_0, fo154_1, fo154_2, fo154_3, fo154_4, fo154_5, fo154_6, fo154_7, fo154_8, fo154_9, fo154_10, trivial⟩, trivial⟩ ⟨un2, un3, un4, un5, un6, un9, un10, un11, un12, un21, un24, un82, un91, un97, un106, un119, un148, un149, un151, un152, trivial⟩ ⟨⟨ze1, DLes.cons (DLe.refl _) (DLes.nil)⟩, ⟨ze2, DLes.cons (DLe.refl _) (DLes.nil)⟩, ⟨ze3, DLes.cons (DLe.refl _) (DLes.nil)⟩, ⟨ze4, DLes.cons (DLe.refl _) (DLes.nil)⟩, ⟨ze5, DLes.cons (DLe.refl _) (DLes.nil)⟩, ⟨ze6, DLes.cons (DLe.refl _) (DLes.nil)⟩, ⟨ze7, DLes.cons (DLe.refl _) (DLes.cons (DLe.refl _) (DLes.cons (DLe.refl _) (DLes.cons (DLe.refl _) (DLes.nil))))⟩, ⟨ze8, DLes.cons (DLe.refl _) (DLes.cons (DLe.refl _) (DLes.cons (DLe.refl _) (DLes.cons (DLe.refl _) (DLes.nil))))⟩, ⟨ze9, DLes.cons (DLe.refl _) (DLes.nil)⟩, ⟨ze10, DLes.cons (DLe.refl _) (DLes.nil)⟩, ⟨ze11, DLes.cons (DLe.refl _) (DLes.nil)⟩, ⟨ze12, DLes.cons (DLe.refl _) (DLes.nil)⟩, ⟨ze13, DLes.cons (DLe.refl _) (DLes.cons (DLe.refl _) (DLes.nil))⟩, ⟨ze14, DLes.cons (DLe.refl _) (DLes.cons (DLe.refl _) (DLes.nil))⟩, ⟨ze15, DLes.cons (DLe.refl _) (DLes.nil)⟩, ⟨ze16, DLes.cons (DLe.refl _) (DLes.nil)⟩, ⟨ze17, DLes.cons (DLe.refl _) (DLes.nil)⟩, ⟨ze18, DLes.cons (DLe.refl _) (DLes.nil)⟩, ⟨ze19, DLes.cons (DLe.refl _) (DLes.nil)⟩, ⟨ze20, DLes.cons (DLe.refl _) (DLes.nil)⟩, ⟨ze21, DLes.cons (DLe.refl _) (DLes.nil)⟩, ⟨ze22, DLes.cons DLe.nil (DLes.nil)⟩, ⟨ze23, DLes.cons (DLe.refl _) (DLes.nil)⟩, ⟨ze24, DLes.cons (DLe.refl _) (DLes.nil)⟩, ⟨ze26, DLes.cons (DLe.refl _) (DLes.nil)⟩, ⟨ze27, DLes.cons DLe.nil (DLes.nil)⟩, ⟨ze29, DLes.cons (DLe.refl _) (DLes.nil)⟩, ⟨ze30, DLes.cons (DLe.refl _) (DLes.nil)⟩, ⟨ze31, DLes.cons (DLe.refl _) (DLes.nil)⟩, ⟨ze32, DLes.cons (DLe.refl _) (DLes.nil)⟩, ⟨ze33, DLes.cons (DLe.refl _) (DLes.nil)⟩, ⟨ze34, DLes.cons (DLe.refl _) (DLes.nil)⟩, ⟨ze35, DLes.cons (DLe.refl _) (DLes.cons (DLe.refl _) (DLes.nil))⟩, ⟨ze36, DLes.cons (DLe.refl _) (DLes.cons (DLe.refl _) (DLes.nil))⟩, ⟨ze37, DLes.cons (DLe.refl _) (DLes.cons (DLe.refl _) (DLes.cons (DLe.refl _) (DLes.cons (DLe.refl _) (DLes.cons (DLe.refl _) (DLes.cons (DLe.refl _) (DLes.cons (DLe.refl _) (DLes.cons (DLe.refl _) (DLes.cons (DLe.refl _) (DLes.cons (DLe.refl _) (DLes.cons (DLe.refl _) (DLes.cons (DLe.refl _) (DLes.nil))))))))))))⟩, ⟨ze38, DLes.cons (DLe.refl _) (DLes.cons (DLe.refl _) (DLes.cons (DLe.refl _) (DLes.cons (DLe.refl _) (DLes.cons (DLe.refl _) (DLes.cons (DLe.refl _) (DLes.cons (DLe.refl _) (DLes.cons (DLe.refl _) (DLes.cons (DLe.refl _) (DLes.cons (DLe.refl _) (DLes.cons (DLe.refl _) (DLes.cons (DLe.refl _) (DLes.nil))))))))))))⟩, ⟨ze39, DLes.cons (DLe.refl _) (DLes.nil)⟩, ⟨ze40, DLes.cons (DLe.refl _) (DLes.cons (DLe.refl _) (DLes.cons (DLe.refl _) (DLes.nil)))⟩, ⟨ze41, DLes.cons (DLe.refl _) (DLes.cons (DLe.refl _) (DLes.cons (DLe.refl _) (DLes.nil)))⟩, ⟨ze42, DLes.cons DLe.nil (DLes.nil)⟩, ⟨ze43, DLes.cons (DLe.refl _) (DLes.cons (DLe.refl _) (DLes.cons (DLe.refl _) (DLes.cons (DLe.refl _) (DLes.cons DLe.nil (DLes.cons (DLe.refl _) (DLes.nil))))))⟩, ⟨ze44, DLes.cons (DLe.refl _) (DLes.cons (DLe.refl _) (DLes.cons (DLe.refl _) (DLes.cons (DLe.refl _) (DLes.cons DLe.nil (DLes.cons (DLe.refl _) (DLes.nil))))))⟩, ⟨ze45, DLes.cons (DLe.refl _) (DLes.cons (DLe.refl _) (DLes.cons (DLe.refl _) (DLes.cons (DLe.refl _) (DLes.cons (DLe.refl _) (DLes.cons DLe.nil (DLes.cons (DLe.refl _) (DLes.nil)))))))⟩, ⟨ze46, DLes.cons (DLe.refl _) (DLes.cons (DLe.refl _) (DLes.cons (DLe.refl _) (DLes.cons (DLe.refl _) (DLes.cons (DLe.refl _) (DLes.cons DLe.nil (DLes.cons (DLe.refl _) (DLes.nil)))))))⟩, ⟨ze48, DLes.cons (DLe.refl _) (DLes.nil)⟩, ⟨ze49, DLes.cons (DLe.refl _) (DLes.nil)⟩, ⟨ze50, DLes.cons (DLe.refl _) (DLes.nil)⟩, ⟨ze51, DLes.cons (DLe.refl _) (DLes.nil)⟩, ⟨ze52, DLes.cons (DLe.refl _) (DLes.nil)⟩, ⟨ze53, DLes.cons (DLe.refl _) (DLes.cons (DLe.refl _) (DLes.nil))⟩, ⟨ze54, DLes.cons (DLe.refl _) (DLes.cons (DLe.refl _) (DLes.nil))⟩, ⟨ze55, DLes.cons (DLe.refl _) (DLes.nil)⟩, ⟨ze56, DLes.cons (DLe.refl _) (DLes.nil)⟩, ⟨ze57, DLes.cons (DLe.refl _) (DLes.nil)⟩, ⟨ze58, DLes.cons (DLe.refl _) (DLes.nil)⟩, ⟨ze59, DLes.cons (DLe.refl _) (DLes.nil)⟩, ⟨ze60, DLes.cons (DLe.refl _) (DLes.nil)⟩, ⟨ze61, DLes.cons (DLe.refl _) (DLes.nil)⟩, ⟨ze62, DLes.cons (DLe.refl _) (DLes.nil)⟩, ⟨ze66, DLes.cons (DLe.refl _) (DLes.nil)⟩, ⟨ze67, DLes.cons (DLe.refl _) (DLes.nil)⟩, ⟨ze68, DLes.cons (DLe.refl _) (DLes.nil)⟩, ⟨ze69, DLes.cons DLe.nil (DLes.nil)⟩, ⟨ze70, DLes.cons (DLe.refl _) (DLes.nil)⟩, ⟨ze71, DLes.cons (DLe.refl _) (DLes.nil)⟩, ⟨ze72, DLes.cons (DLe.refl _) (DLes.cons (DLe.refl _) (DLes.cons (DLe.refl _) (DLes.cons (DLe.refl _) (DLes.cons (DLe.refl _) (DLes.cons (DLe.refl _) (DLes.cons (DLe.refl _) (DLes.cons (DLe.refl _) (DLes.cons (DLe.refl _) (DLes.nil)))))))))⟩, ⟨ze73, DLes.cons (DLe.refl _) (DLes.nil)⟩, ⟨ze74, DLes.cons (DLe.refl _) (DLes.nil)⟩, ⟨ze76, DLes.cons (DLe.refl _) (DLes.nil)⟩, ⟨ze77, DLes.cons (DLe.refl _) (DLes.nil)⟩, ⟨ze79, DLes.cons (DLe.refl _) (DLes.nil)⟩, ⟨ze80, DLes.cons (DLe.refl _) (DLes.nil)⟩, ⟨ze81, DLes.cons (DLe.refl _) (DLes.nil)⟩, ⟨ze82, DLes.cons (DLe.refl _) (DLes.nil)⟩, ⟨ze83, DLes.cons (DLe.refl _) (DLes.nil)⟩, ⟨ze84, DLes.cons (DLe.refl _) (DLes.nil)⟩, ⟨ze86, DLes.cons (DLe.refl _) (DLes.nil)⟩, ⟨ze87, DLes.cons (DLe.refl _) (DLes.nil)⟩, ⟨ze88, DLes.cons DLe.nil (DLes.nil)⟩, ⟨ze89, DLes.cons (DLe.refl _) (DLes.cons (DLe.refl _) (DLes.nil))⟩, ⟨ze90, DLes.cons (DLe.refl _) (DLes.cons (DLe.refl _) (DLes.nil))⟩, ⟨ze91, DLes.cons (DLe.refl _) (DLes.nil)⟩, ⟨ze92, DLes.cons (DLe.refl _) (DLes.nil)⟩, ⟨ze93, DLes.cons (DLe.refl _) (DLes.nil)⟩, ⟨ze94, DLes.cons (DLe.refl _) (DLes.nil)⟩, ⟨ze95, DLes.cons (DLe.refl _) (DLes.nil)⟩, ⟨ze96, DLes.cons (DLe.refl _) (DLes.nil)⟩, ⟨ze97, DLes.cons (DLe.refl _) (DLes.nil)⟩, ⟨ze98, DLes.cons (DLe.refl _) (DLes.cons (DLe.refl _) (DLes.nil))⟩, ⟨ze99, DLes.cons (DLe.refl _) (DLes.cons (DLe.refl _) (DLes.nil))⟩, ⟨ze100, DLes.cons (DLe.refl _) (DLes.cons (DLe.refl _) (DLes.cons (DLe.refl _) (DLes.cons (DLe.refl _) (DLes.cons (DLe.refl _) (DLes.cons (DLe.refl _) (DLes.cons (DLe.refl _) (DLes.cons (DLe.refl _) (DLes.cons (DLe.refl _) (DLes.cons (DLe.refl _) (DLes.cons (DLe.refl _) (DLes.cons (DLe.refl _) (DLes.cons (DLe.refl _) (DLes.cons (DLe.refl _) (DLes.cons (DLe.refl _) (DLes.cons (DLe.refl _) (DLes.cons (DLe.refl _) (DLes.cons (DLe.refl _) (DLes.cons (DLe.refl _) (DLes.cons (DLe.refl _) (DLes.cons (DLe.refl _) (DLes.cons (DLe.refl _) (DLes.cons (DLe.refl _) (DLes.cons (DLe.refl _) (DLes.cons (DLe.refl _) (DLes.cons (DLe.refl _) (DLes.cons (DLe.refl _) (DLes.cons (DLe.refl _) (DLes.cons (DLe.refl _) (DLes.cons (DLe.refl _) (DLes.cons (DLe.refl _) (DLes.cons (DLe.refl _) (DLes.nil))))))))))))))))))))))))))))))))⟩, ⟨ze101, DLes.cons (DLe.refl _) (DLes.nil)⟩, ⟨ze102, DLes.cons DLe.nil (DLes.nil)⟩, ⟨ze103, DLes.cons DLe.nil (DLes.nil)⟩, ⟨ze104, DLes.cons DLe.nil (DLes.cons DLe.nil (DLes.cons (DLe.refl _) (DLes.nil)))⟩, ⟨ze105, DLes.cons DLe.nil (DLes.cons DLe.nil (DLes.cons (DLe.refl _) (DLes.nil)))⟩, ⟨ze106, DLes.cons (DLe.refl _) (DLes.nil)⟩, ⟨ze107, DLes.cons (DLe.refl _) (DLes.cons (DLe.refl _) (DLes.cons (DLe.refl _) (DLes.nil)))⟩, ⟨ze108, DLes.cons (DLe.refl _) (DLes.cons (DLe.refl _) (DLes.cons (DLe.refl _) (DLes.nil)))⟩, ⟨ze109, DLes.cons (DLe.refl _) (DLes.nil)⟩, ⟨ze110, DLes.cons (DLe.refl _) (DLes.cons (DLe.refl _) (DLes.cons (DLe.refl _) (DLes.nil)))⟩, ⟨ze111, DLes.cons (DLe.refl _) (DLes.cons (DLe.refl _) (DLes.cons (DLe.refl _) (DLes.nil)))⟩, ⟨ze112, DLes.cons (DLe.refl _) (DLes.nil)⟩, ⟨ze113, DLes.cons (DLe.refl _) (DLes.cons (DLe.refl _) (DLes.cons (DLe.refl _) (DLes.cons (DLe.refl _) (DLes.cons (DLe.refl _) (DLes.cons (DLe.refl _) (DLes.cons (DLe.refl _) (DLes.cons (DLe.refl _) (DLes.cons (DLe.refl _) (DLes.cons (DLe.refl _) (DLes.cons (DLe.refl _) (DLes.cons (DLe.refl _) (DLes.cons (DLe.refl _) (DLes.cons (DLe.refl _) (DLes.cons (DLe.refl _) (DLes.cons (DLe.refl _) (DLes.cons (DLe.refl _) (DLes.cons (DLe.refl _) (DLes.cons (DLe.refl _) (DLes.cons (DLe.refl _) (DLes.cons (DLe.refl _) (DLes.cons (DLe.refl _) (DLes.cons (DLe.refl _) (DLes.cons (DLe.refl _) (DLes.nil))))))))))))))))))))))))⟩, ⟨ze114, DLes.cons (DLe.refl _) (DLes.nil)⟩, ⟨ze115, DLes.cons (DLe.refl _) (DLes.nil)⟩, ⟨ze116, DLes.cons DLe.nil (DLes.nil)⟩, ⟨ze118, DLes.cons (DLe.refl _) (DLes.nil)⟩, ⟨ze119, DLes.cons (DLe.refl _) (DLes.nil)⟩, ⟨ze120, DLes.cons (DLe.refl _) (DLes.nil)⟩, ⟨ze121, DLes.cons (DLe.refl _) (DLes.nil)⟩, ⟨ze122, DLes.cons (DLe.refl _) (DLes.nil)⟩, ⟨ze123, DLes.cons (DLe.refl _) (DLes.nil)⟩, ⟨ze124, DLes.cons (DLe.refl _) (DLes.nil)⟩, ⟨ze125, DLes.cons (DLe.refl _) (DLes.nil)⟩, ⟨ze126, DLes.cons (DLe.refl _) (DLes.nil)⟩, ⟨ze127, DLes.cons (DLe.refl _) (DLes.nil)⟩, ⟨ze128, DLes.cons (DLe.refl _) (DLes.cons (DLe.refl _) (DLes.cons (DLe.refl _) (DLes.cons (DLe.refl _) (DLes.cons (DLe.refl _) (DLes.cons (DLe.refl _) (DLes.cons (DLe.refl _) (DLes.cons (DLe.refl _) (DLes.cons (DLe.refl _) (DLes.cons (DLe.refl _) (DLes.cons (DLe.refl _) (DLes.cons (DLe.refl _) (DLes.cons (DLe.refl _) (DLes.cons (DLe.refl _) (DLes.cons (DLe.refl _) (DLes.cons (DLe.refl _) (DLes.cons (DLe.refl _) (DLes.cons (DLe.refl _) (DLes.cons (DLe.refl _) (DLes.cons (DLe.refl _) (DLes.nil))))))))))))))))))))⟩, ⟨ze130, DLes.cons (DLe.refl _) (DLes.nil)⟩, ⟨ze131, DLes.cons (DLe.refl _) (DLes.nil)⟩, ⟨ze132, DLes.cons (DLe.refl _) (DLes.nil)⟩, ⟨ze133, DLes.cons (DLe.refl _) (DLes.cons (DLe.refl _) (DLes.cons (DLe.refl _) (DLes.nil)))⟩, ⟨ze134, DLes.cons (DLe.refl _) (DLes.cons (DLe.refl _) (DLes.cons (DLe.refl _) (DLes.nil)))⟩, ⟨ze135, DLes.cons (DLe.refl _) (DLes.nil)⟩, ⟨ze136, DLes.cons (DLe.refl _) (DLes.nil)⟩, ⟨ze137, DLes.cons (DLe.refl _) (DLes.nil)⟩, ⟨ze138, DLes.cons (DLe.refl _) (DLes.nil)⟩, ⟨ze139, DLes.cons (DLe.refl _) (DLes.nil)⟩, ⟨ze140, DLes.cons (DLe.refl _) (DLes.nil)⟩, ⟨ze141, DLes.cons (DLe.refl _) (DLes.cons (DLe.refl _) (DLes.cons (DLe.refl _) (DLes.cons (DLe.refl _) (DLes.cons (DLe.refl _) (DLes.cons (DLe.refl _) (DLes.cons (DLe.refl _) (DLes.cons (DLe.refl _) (DLes.cons (DLe.refl _) (DLes.cons (DLe.refl _) (DLes.cons (DLe.refl _) (DLes.cons (DLe.refl _) (DLes.cons (DLe.refl _) (DLes.cons (DLe.refl _) (DLes.cons (DLe.refl _) (DLes.cons (DLe.refl _) (DLes.cons (DLe.refl _) (DLes.cons (DLe.refl _) (DLes.cons (DLe.refl _) (DLes.cons (DLe.refl _) (DLes.cons (DLe.refl _) (DLes.cons (DLe.refl _) (DLes.cons (DLe.refl _) (DLes.cons (DLe.refl _) (DLes.cons (DLe.refl _) (DLes.cons (DLe.refl _) (DLes.cons (DLe.refl _) (DLes.cons (DLe.refl _) (DLes.cons (DLe.refl _) (DLes.cons (DLe.refl _) (DLes.cons (DLe.refl _) (DLes.cons (DLe.refl _) (DLes.nil))))))))))))))))))))))))))))))))⟩, ⟨ze143, DLes.cons (DLe.refl _) (DLes.cons (DLe.refl _) (DLes.cons (DLe.refl _) (DLes.cons (DLe.refl _) (DLes.nil))))⟩, ⟨ze144, DLes.cons (DLe.refl _) (DLes.cons (DLe.refl _) (DLes.cons (DLe.refl _) (DLes.cons (DLe.refl _) (DLes.nil))))⟩, ⟨ze145, DLes.nil⟩, ⟨ze146, DLes.nil⟩, ⟨ze147, DLes.nil⟩, ⟨ze148, DLes.cons (DLe.refl _) (DLes.nil)⟩, ⟨ze149, DLes.cons (DLe.refl _) (DLes.nil)⟩, ⟨ze150, DLes.cons (DLe.refl _) (DLes.nil)⟩, ⟨ze151, DLes.cons (DLe.refl _) (DLes.nil)⟩, ⟨ze152, DLes.cons (DLe.refl _) (DLes.nil)⟩, ⟨ze153, DLes.cons (DLe.refl _) (DLes.cons (DLe.refl _) (DLes.cons (DLe.refl _) (DLes.cons (DLe.refl _) (DLes.cons (DLe.refl _) (DLes.cons (DLe.refl _) (DLes.cons (DLe.refl _) (DLes.cons (DLe.refl _) (DLes.cons (DLe.refl _) (DLes.cons (DLe.refl _) (DLes.cons (DLe.refl _) (DLes.nil)))))))))))⟩, ⟨ze154, DLes.cons (DLe.refl _) (DLes.cons (DLe.refl _) (DLes.cons (DLe.refl _) (DLes.cons (DLe.refl _) (DLes.cons (DLe.refl _) (DLes.cons (DLe.refl _) (DLes.cons (DLe.refl _) (DLes.cons (DLe.refl _) (DLes.cons (DLe.refl _) (DLes.cons (DLe.refl _) (DLes.cons (DLe.refl _) (DLes.nil)))))))))))⟩, ⟨ze155, DLes.cons (DLe.refl _) (DLes.nil)⟩, trivial⟩ ⟨pl7, pl8, pl13, pl14, pl18, pl19, pl35, pl36, pl37, pl38, pl40, pl41, pl43, pl44, pl45, pl46, pl53, pl54, pl89, pl90, pl98, pl99, pl104, pl105, pl107, pl108, pl110, pl111, pl133, pl134, pl139, pl140, pl143, pl144, pl146, pl147, pl153, pl154, trivial⟩ ⟨ar63, ar64, ar72, ar78, ar100, ar113, ar128, ar129, ar141, ar142, ar145, trivial⟩ ⟨mk27, mk69, mk116, trivial⟩ trivial (by kernel_rfl)
end Go.Proofs.YtenlhfmchhljdaaDoor
